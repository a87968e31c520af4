/- Ab.Panic: calls that may panic. -/
import Derived.Test.YtgnlnkbkbddfaaaAbWalk
namespace Go.Ab

section
variable {P : Program} {T : Types} {C : Cx} {e : Env} {H : Hp} {g : Gh} {w : World} {a : Act}

/-- A call that hands something back (K), or panics (KP). -/
def ACallsP (P : Program) (f : FuncId) (xs : List AV) (H : Hp) (K : AV → Hp → Prop) (KP : List PanicEntry → Hp → Prop) : Prop :=
  (∃ fn, P.funcs[f]? = some fn ∧ fn.body.isNone = false ∧ (fn.name == "runtime.NumGoroutine") = false) ∧
  ∀ (d : Nat) (g : Gh) (w : World) (vs : Array Value), Inv g w → HRel g w H → vs.size = xs.length → (∀ (i : Nat) (x : AV) (v : Value), xs[i]? = some x → vs[i]? = some v → SlotRep g w (.slot (d + 1) i) x v) →
    Calls P f vs w (fun en w' => ∃ (g' : Gh) (H' : Hp), Guar (d + 1) H H' g w g' w' ∧ Inv g' w' ∧ HRel g' w' H' ∧
      ((∃ (x : AV) (v : Value) (t : Nat), en = .returned v ∧ SlotRep g' w' (.slot (d + 1) t) x v ∧ K x H') ∨ (∃ ch, en = .panicked ch ∧ KP ch H')))

theorem ACallsP.mono {f : FuncId} {xs : List AV} {K K' : AV → Hp → Prop} {KP KP' : List PanicEntry → Hp → Prop} (h : ACallsP P f xs H K KP) (hk : ∀ x H, K x H → K' x H) (hp : ∀ x H, KP x H → KP' x H) : ACallsP P f xs H K' KP' :=
  ⟨h.1, fun d g w vs h1 h2 h3 h4 => (h.2 d g w vs h1 h2 h3 h4).mono fun _ _ ⟨g', H', k2, k3, k4, k5⟩ => ⟨g', H', k2, k3, k4, k5.imp (fun ⟨x, v, t, m1, m2, m3⟩ => ⟨x, v, t, m1, m2, hk _ _ m3⟩) (fun ⟨ch, m1, m2⟩ => ⟨ch, m1, hp _ _ m2⟩)⟩⟩

theorem ACalls.toP {f : FuncId} {xs : List AV} {K : AV → Hp → Prop} {KP : List PanicEntry → Hp → Prop} (h : ACalls P f xs H K) : ACallsP P f xs H K KP :=
  ⟨h.1, fun d g w vs h1 h2 h3 h4 => (h.2 d g w vs h1 h2 h3 h4).mono fun _ _ ⟨g', x, v, H', t, k1, k2, k3, k4, k5, k6⟩ => ⟨g', H', k2, k3, k4, .inl ⟨x, v, t, k1, k5, k6⟩⟩⟩

theorem ACallsP.toA {f : FuncId} {xs : List AV} {K : AV → Hp → Prop} (h : ACallsP P f xs H K fun _ _ => False) : ACalls P f xs H K :=
  ⟨h.1, fun d g w vs h1 h2 h3 h4 => (h.2 d g w vs h1 h2 h3 h4).mono fun _ _ ⟨g', H', k2, k3, k4, k5⟩ => k5.elim (fun ⟨x, v, t, k1, m2, m3⟩ => ⟨g', x, v, H', t, k1, k2, k3, k4, m2, m3⟩) (fun ⟨_, _, h⟩ => h.elim)⟩

theorem AOp_callP {ops : Array Oper} {i : Nat} {o : Oper} (hi : ops[i]? = some o) (hw : ∀ g a w, SRel g C e H a w → Region.wanted o (yielded ops a.tmps) = true) (hd : dstOk C.nt o.dst = true) {F : Operand} {ags : Array Operand} {ts : Array TypeId}
    (ho : o.op = .call { callee := .value F, args := ags, argTypes := ts }) {f : FuncId} {fi ca : Array Value} (hF : arg e F = some (true, .sc (.func (.func f) fi ca))) (hone : ∀ v ∈ fi.toList ++ ca.toList, one v = true)
    {xs : List AV} (hx : args e ags.toList = some (true, xs)) {K : Env → Hp → Prop} {Kx : Exit → Env → Hp → Prop}
    (hc : ACallsP P f (fi.toList.map AV.sc ++ xs ++ ca.toList.map AV.sc) H (fun x H' => K (dput e o.dst x) H') (fun ch H' => Kx (.panic ch) e H')) : AOp P C ops i K Kx e H := by
  intro g a w hr NX Q hNX hQ
  obtain ⟨⟨fn, q1, q2, q3⟩, hc⟩ := hc
  have hFv := (arg_sc hr.cslots hF rfl).1
  obtain ⟨l1, l2⟩ := args_sound hr.cslots ags.toList true xs hx rfl
  have hcall := hc C.d g w (fi ++ ags.map a.eval ++ ca) hr.inv hr.heap (by simp [l1]) (fun j x v hx' hv => by
    by_cases j1 : j < fi.size
    · rw [List.append_assoc, List.getElem?_append_left (by simpa using j1), List.getElem?_map] at hx'
      rw [Array.append_assoc, Array.getElem?_append_left j1] at hv
      simp only [Array.getElem?_toList, Option.map_eq_some_iff] at hx'
      obtain ⟨u, hu, rfl⟩ := hx'
      rw [hu] at hv
      cases hv
      exact .sc _ (hone _ (List.mem_append_left _ (List.mem_of_getElem? (i := j) (by simpa using hu))))
    · rw [List.append_assoc, List.getElem?_append_right (by simpa using Nat.le_of_not_lt j1)] at hx'
      rw [Array.append_assoc, Array.getElem?_append_right (Nat.le_of_not_lt j1)] at hv
      simp only [List.length_map, Array.length_toList] at hx'
      by_cases j2 : j - fi.size < xs.length
      · rw [List.getElem?_append_left j2] at hx'
        rw [Array.getElem?_append_left (by simp; simp at l1; omega)] at hv
        simp only [Array.getElem?_map, Option.map_eq_some_iff] at hv
        obtain ⟨X, hX, rfl⟩ := hv
        exact rep_slot (l2 _ x X hx' (by simpa using hX))
      · rw [List.getElem?_append_right (by omega), List.getElem?_map] at hx'
        rw [Array.getElem?_append_right (by simp; simp at l1; omega)] at hv
        have e1 : j - fi.size - (ags.map a.eval).size = j - fi.size - xs.length := by simp; simp at l1; omega
        rw [e1] at hv
        simp only [Array.getElem?_toList, Option.map_eq_some_iff] at hx'
        obtain ⟨u, hu, rfl⟩ := hx'
        rw [hu] at hv
        cases hv
        exact .sc _ (hone _ (List.mem_append_right _ (List.mem_of_getElem? (i := j - fi.size - xs.length) (by simpa using hu)))))
  unfold wpOp
  simp only [hi, hw g a w hr, if_true]
  left
  unfold Oper.wp
  have hrun : (execOp a.eval o).run P w = .ok (.enter f (fi ++ ags.map a.eval ++ ca)) w := by
    simp only [execOp, ho, resolve, hFv, Deferred.ofValue, Sem.run_bind, Sem.run_pure, Result.andThen_ok, invoke, callFunc, run_program, q1, q2, q3]
    simp
  rw [hrun]
  show Calls P f _ w _
  refine hcall.mono fun en w' ⟨g', H', k2, k3, k4, k5⟩ => ?_
  rcases k5 with ⟨x, v, t, rfl, k5, k6⟩ | ⟨ch, rfl, k6⟩
  · show NX (a.put o.dst v) w'
    have hr1 := hr.called k2 k3 k4
    have hkp := moveG_keep (g := g') (w := w') (.slot (C.d + 1) t) (.slot C.d (o.dst.getD 0))
    have hsm := fun o2 (hne : o2 ≠ .slot (C.d + 1) t) => moveG_same (g := g') (w := w') (o' := .slot C.d (o.dst.getD 0)) hne
    have hr2 : SRel (moveG g' (.slot (C.d + 1) t) (.slot C.d (o.dst.getD 0))) C e H' a w' := by
      refine ⟨moveG_inv k3 (fun _ _ h => by cases h), fun B b hb => ?_, hr.defers, hr.size, fun u hu => ?_⟩
      · obtain ⟨h1, h2⟩ := k4 B b hb
        exact ⟨(hsm .blk (by simp) B h1).1, h2.keep hkp (hsm _ (by simp)) h1 fun i => hsm _ (by simp)⟩
      · obtain ⟨u', q1, q2⟩ := hr1.slots u hu
        exact ⟨u', q1, q2.keep hkp (hsm _ (by simp))⟩
    refine hNX _ _ w' (dput e o.dst x) H' (k2.depth.trans ?_) (hr2.put' hd fun t' ht' => ?_) k6
    · refine ⟨hkp, fun B o2 hB hf => ?_⟩
      have hne : o2 ≠ .slot (C.d + 1) t := fun h => hf (by subst h; exact Nat.le_succ _)
      obtain ⟨h1, h2, h3⟩ := hsm o2 hne B hB
      exact ⟨h1, hf, h2, h3⟩
    · rw [ht']
      exact moveG_slot k5
  · exact hQ (.panic ch) g' a w' e H' k2.depth (hr.called k2 k3 k4) k6

def enterPK (P : Program) : Option (Bool × AV) → Option (Bool × List AV) → Option Tmp → (Env → Hp → Prop) → (Exit → Env → Hp → Prop) → Env → Hp → Prop
  | some (b, .sc (.func (.func f) fi ca)), some (c, xs), dst, K, Kx, e, H => (b && c && fi.toList.all one && ca.toList.all one) = true ∧ ACallsP P f (fi.toList.map AV.sc ++ xs ++ ca.toList.map AV.sc) H (callK K e dst) (fun ch H' => Kx (.panic ch) e H')
  | _, _, _, _, _, _, _ => False

def enterPF (P : Program) (F : Operand) (ags : List Operand) (dst : Option Tmp) (K : Env → Hp → Prop) (Kx : Exit → Env → Hp → Prop) (H : Hp) (e : Env) : Prop := enterPK P (arg e F) (args e ags) dst K Kx e H

def panicK : Option (Bool × AV) → (Exit → Env → Hp → Prop) → Env → Hp → Prop
  | some (b, .sc (.iface t v)), Kx, e, H => b = true ∧ Kx (.panic [{ v := .iface t v, recovered := false }]) e H
  | _, _, _, _ => False

def astepP (P : Program) (T : Types) (nt : Nat) (ops : Array Oper) (tk : Bool) : Oper → (Env → Hp → Prop) → (Exit → Env → Hp → Prop) → Env → Hp → Prop
  | ⟨dst, .call ⟨.value F, ags, _⟩, _, _, _, none⟩, K, Kx, e, H => dstOk nt dst = true ∧ enterPF P F ags.toList dst K Kx H (fzE e ags.toList)
  | ⟨_, .panic X, _, _, _, none⟩, _, Kx, e, H => panicK (arg e X) Kx e H
  | o, K, _, e, H => astep P T nt ops tk o K e H

def aregP (P : Program) (T : Types) (nt : Nat) (ops : Array Oper) (tk : List Nat) (Kx : Exit → Env → Hp → Prop) : Nat → List Oper → Env → Hp → Prop
  | _, [], e, H => Kx .normal e H
  | i, o :: os, e, H => astepP P T nt ops (tk.contains i) o (aregP P T nt ops tk Kx (i + 1) os) Kx e H

theorem enterPK_inv {r : Option (Bool × AV)} {q : Option (Bool × List AV)} {dst : Option Tmp} {K : Env → Hp → Prop} {Kx : Exit → Env → Hp → Prop} (h : enterPK P r q dst K Kx e H) :
    ∃ b f fi ca c xs, r = some (b, .sc (.func (.func f) fi ca)) ∧ q = some (c, xs) ∧ (b && c && fi.toList.all one && ca.toList.all one) = true ∧ ACallsP P f (fi.toList.map AV.sc ++ xs ++ ca.toList.map AV.sc) H (callK K e dst) (fun ch H' => Kx (.panic ch) e H') := by
  unfold enterPK at h
  split at h
  · exact ⟨_, _, _, _, _, _, rfl, rfl, h⟩
  · exact h.elim

theorem panicK_inv {r : Option (Bool × AV)} {Kx : Exit → Env → Hp → Prop} (h : panicK r Kx e H) : ∃ t v, r = some (true, .sc (.iface t v)) ∧ Kx (.panic [{ v := .iface t v, recovered := false }]) e H := by
  unfold panicK at h
  split at h
  · obtain ⟨rfl, h⟩ := h; exact ⟨_, _, rfl, h⟩
  · exact h.elim

theorem AOp_stepP (hT : TOk P T) {ops : Array Oper} {i : Nat} {o : Oper} (hi : ops[i]? = some o) {tk : Bool} {K : Env → Hp → Prop} {Kx : Exit → Env → Hp → Prop} (h : astepP P T C.nt ops tk o K Kx e H) : AOp P C ops i K Kx e H := by
  unfold astepP at h
  split at h
  · rename_i dst F ags ts ty ps af
    obtain ⟨hd, h⟩ := h
    refine AOp_fzE (l := ags.toList) ?_
    obtain ⟨b, f, fi, ca, c, xs, hF, hxs, h1, h2⟩ := enterPK_inv h
    simp only [Bool.and_eq_true] at h1
    obtain ⟨⟨⟨rfl, rfl⟩, h3⟩, h4⟩ := h1
    refine AOp_callP hi (fun _ _ _ _ => rfl) hd rfl hF (fun v hv => ?_) hxs h2
    rcases List.mem_append.1 hv with hv | hv
    · exact List.all_eq_true.1 h3 v hv
    · exact List.all_eq_true.1 h4 v hv
  · rename_i dst X ty ps af
    obtain ⟨t, v, hX, h⟩ := panicK_inv h
    intro g a w hr NX Q hNX hQ
    have hv := (arg_sc hr.cslots hX rfl).1
    unfold wpOp
    simp only [hi, Region.wanted, if_true]
    left
    unfold Oper.wp
    have hrun : (execOp a.eval ⟨dst, .panic X, ty, ps, af, none⟩).run P w = .halt (.panic (.iface t v)) w := by
      simp [execOp, hv, Instr.panic, goPanic, Sem.run, Result.andThen]
    rw [hrun]
    exact hQ _ g a w e H .refl hr h
  · exact AOp_step hT hi h

theorem AOps_aregP (hT : TOk P T) {ops : Array Oper} {tk : List Nat} {Q : Exit → Env → Hp → Prop} : ∀ (os : List Oper) (i : Nat) {e : Env} {H : Hp}, ops.toList.drop i = os → aregP P T C.nt ops tk Q i os e H → AOps P C ops (List.range' i os.length) Q e H
  | [], i, e, H, _, h => AOps_nil (by simpa [aregP] using h)
  | o :: os, i, e, H, hd, h => by
    simp only [aregP] at h
    have hi : ops[i]? = some o := by
      have : (ops.toList.drop i)[0]? = some o := by rw [hd]; rfl
      rw [List.getElem?_drop] at this
      simpa using this
    have hd2 : ops.toList.drop (i + 1) = os := by
      rw [← List.drop_drop, hd]; rfl
    rw [List.length_cons, List.range'_succ]
    refine AOps_cons ?_
    have hst := AOp_stepP (C := C) (Kx := Q) hT hi h
    intro g a w hr NX Q' hNX hQ
    exact hst g a w hr NX Q' (fun g' a' w' e' H' k1 k2 k3 => hNX g' a' w' e' H' k1 k2 (AOps_aregP hT os (i + 1) hd2 k3)) hQ

/-- A region that keeps its order, whose calls may panic. -/
theorem AWp_regionP (hT : TOk P T) (tk : List Nat) {id : Nat} {ops : Array Oper} {Q : Exit → Env → Hp → Prop} (h : aregP P T C.nt ops tk Q 0 ops.toList e H) : AWp P C (.region id ops false) Q e H := by
  refine AWp_of_ops ?_
  have := AOps_aregP (C := C) hT ops.toList 0 rfl h
  rwa [Array.length_toList, ← List.range_eq_range'] at this

/-- How a body ends, that may panic. -/
def retQP (T : Types) (rs : List ResultVar) (K : AV → Hp → Prop) (KP : List PanicEntry → Hp → Prop) (ex : Exit) (e : Env) (H : Hp) : Prop :=
  retQ T rs K ex e H ∨ ∃ ch H', ex = .panic ch ∧ (∀ B b, H' B = some b → H B = some b) ∧ KP ch H'

theorem retQP_ret {rs : List ResultVar} {K : AV → Hp → Prop} {KP : List PanicEntry → Hp → Prop} (h : retK H K (ares T rs e H)) : retQP T rs K KP .ret e H := .inl (retQ_ret h)
theorem retQP_normal {rs : List ResultVar} {K : AV → Hp → Prop} {KP : List PanicEntry → Hp → Prop} (h : retK H K (ares T rs e H)) : retQP T rs K KP .normal e H := .inl (retQ_normal h)
theorem retQP_mk {rs : List ResultVar} {K : AV → Hp → Prop} {KP : List PanicEntry → Hp → Prop} {ex : Exit} (H' : Hp) (hh : ∀ B b, H' B = some b → H B = some b) (hex : ex = .normal ∨ ex = .ret) (h : retK H' K (ares T rs e H)) : retQP T rs K KP ex e H := .inl (retQ_mk H' hh hex h)
theorem retQP_panic {rs : List ResultVar} {K : AV → Hp → Prop} {KP : List PanicEntry → Hp → Prop} {ch : List PanicEntry} (H' : Hp) (hh : ∀ B b, H' B = some b → H B = some b) (h : KP ch H') : retQP T rs K KP (.panic ch) e H := .inr ⟨ch, H', rfl, hh, h⟩

/-- A function's body, from its arguments on. -/
theorem ACallsP_body (hT : TOk P T) {f : FuncId} {fn : Func} {c : Code} {xs : List AV} {K : AV → Hp → Prop} {KP : List PanicEntry → Hp → Prop} (hf : P.funcs[f]? = some fn) (hb : fn.body = some c) (hn : (fn.name == "runtime.NumGoroutine") = false)
    (h : ∀ d, AWp P ⟨d + 1, [], fn.ntmps⟩ c (retQP T fn.results.toList K KP) (ofL (argL 0 xs)) H) : ACallsP P f xs H K KP := by
  refine ⟨⟨fn, hf, by rw [hb]; rfl, hn⟩, fun d g w vs hi hh hl hv => ?_⟩
  refine calls_of_wp hf hb (wp_mono (h d g { tmps := vs ++ Array.replicate (fn.ntmps - vs.size) undef, defers := [] } w ⟨hi, hh, rfl, by simp; omega, fun t ht => ?_⟩) ?_)
  · rw [ofL_argL] at ht ⊢
    simp only [Nat.zero_le, if_true, Nat.sub_zero] at ht ⊢
    cases hx : xs[t]? with
    | none => rw [hx] at ht; exact absurd rfl ht
    | some x =>
      have hlt := lt_of_getElem? hx
      rw [← hl] at hlt
      refine ⟨vs[t], by rw [Array.getElem?_append_left hlt]; simp, ?_⟩
      exact hv t x _ hx (by simp)
  · rintro ex a' w' ⟨g', e', H', k1, k2, hq⟩
    rcases hq with ⟨hex, p, x, H2, k3, k4, k5, k6⟩ | ⟨ch, H2, rfl, k5, k6⟩
    · obtain ⟨v, t, r1, r2⟩ := ares_sound hT k2 fn k3 k4
      have hfin : a'.defers = [] ∧ ∃ v, (results fn a'.tmps).run P w' = .ok v w' ∧ ∃ (g' : Gh) (H' : Hp), Guar (d + 1) H H' g w g' w' ∧ Inv g' w' ∧ HRel g' w' H' ∧
          ((∃ (x : AV) (v' : Value) (t : Nat), Ending.returned v = .returned v' ∧ SlotRep g' w' (.slot (d + 1) t) x v' ∧ K x H') ∨ (∃ ch, Ending.returned v = .panicked ch ∧ KP ch H')) :=
        ⟨k2.defers, v, r1, g', H2, k1.trans (Guar.weak k5), k2.inv, fun B b hB => k2.heap B b (k5 B b hB), .inl ⟨x, v, t, rfl, r2, k6⟩⟩
      rcases hex with rfl | rfl
      · exact hfin
      · exact hfin
    · exact ⟨k2.defers, g', H2, k1.trans (Guar.weak k5), k2.inv, fun B b hB => k2.heap B b (k5 B b hB), .inr ⟨ch, rfl, k6⟩⟩

theorem ACallsP_fn (hT : TOk P T) {f : FuncId} {fn : Func} {c : Code} {xs : List AV} {H : Hp} {K : AV → Hp → Prop} {KP : List PanicEntry → Hp → Prop} (hf : P.funcs[f]? = some fn) (nt : Nat) (rs : List ResultVar) (hb : fn.body = some c) (hnt : fn.ntmps = nt) (hrs : fn.results.toList = rs)
    (hn : (fn.name == "runtime.NumGoroutine") = false) (h : ∀ d, AWp P ⟨d + 1, [], nt⟩ c (retQP T rs K KP) (ofL (argL 0 xs)) H) : ACallsP P f xs H K KP := by
  subst hnt hrs
  exact ACallsP_body hT hf hb hn h

/-- Less is told of a cell. -/
def wkAV (x y : AV) : Prop := x = y ∨ (∃ xs, x = .lst 1 xs ∧ y = .lst 0 xs) ∨ (x = .lst 2 [] ∧ (y = .lst 0 [] ∨ y = .lst 1 [])) ∨ y = .und

theorem wkAV_slot {o : Owner} {x y : AV} {v : Value} (h : wkAV x y) (hs : SlotRep g w o x v) : SlotRep g w o y v := by
  rcases h with rfl | ⟨xs, rfl, rfl⟩ | ⟨rfl, h⟩ | rfl
  · exact hs
  · exact hs.1
  · rcases hs with ⟨base, _, rfl⟩ | ⟨B, off, cap, s, c, E, f, hv, h1, h2, h3, _⟩
    · rcases h with rfl | rfl
      · exact .nil base 0
      · exact ⟨.nil base 0, base, 0, rfl, .inl rfl⟩
    · exact absurd h3 (by simp)
  · exact .und v

def wkCells : List AV → List AV → Prop
  | [], [] => True
  | x :: xs, y :: ys => wkAV x y ∧ wkCells xs ys
  | _, _ => False

theorem wkCells_len : ∀ {xs ys : List AV}, wkCells xs ys → xs.length = ys.length
  | [], [], _ => rfl
  | _ :: xs, _ :: ys, h => by simp [wkCells_len h.2]

theorem wkCells_get : ∀ {xs ys : List AV}, wkCells xs ys → ∀ {i : Nat} {y : AV}, ys[i]? = some y → ∃ x, xs[i]? = some x ∧ wkAV x y
  | [], [], _, i, y, h => by simp at h
  | x :: xs, y' :: ys, h, 0, y, hy => by simp at hy; subst hy; exact ⟨x, rfl, h.1⟩
  | x :: xs, y' :: ys, h, i + 1, y, hy => by simpa using wkCells_get h.2 (by simpa using hy)

theorem AWp_cells {c : Code} {Q : Exit → Env → Hp → Prop} {B : Nat} {cs cs' : List AV} (hB : H B = some (.cells cs)) (hw : wkCells cs cs') (h : AWp P C c Q e (hset H B (.cells cs'))) : AWp P C c Q e H := by
  intro g a w hr
  obtain ⟨hb1, hb2⟩ := hr.heap B _ hB
  have hr2 : SRel g C e (hset H B (.cells cs')) a w := hr.hset hb1 (by
    obtain ⟨c0, E, k1, k2, k3, k4⟩ := hb2
    refine ⟨c0, E, k1, by rw [k2, wkCells_len hw], k3, fun i x v hx hv => ?_⟩
    obtain ⟨x0, h1, h2⟩ := wkCells_get hw hx
    exact ⟨wkAV_slot h2 (k4 i x0 v h1 hv).1, (k4 i x0 v h1 hv).2⟩)
  refine wp_mono (h g a w hr2) fun ex a' w' ⟨g', e', H', k1, k2, k3⟩ => ⟨g', e', H', ⟨k1.keep, fun D o ho hf => k1.prot D o ho fun hf2 => hf ?_⟩, k2, k3⟩
  cases o with
  | blk => intro hn; refine hf2 ?_; simp only [Ab.hset]; split
           · rename_i hd; subst hd; rw [hB] at hn; cases hn
           · exact hn
  | cell D' i => intro hn; refine hf2 ?_; simp only [Ab.hset]; split
                 · rename_i hd; subst hd; rw [hB] at hn; cases hn
                 · exact hn
  | slot d' t => exact hf2

theorem hset_over (H : Hp) (B : Nat) (x y : AB) : hset (hset H B x) B y = hset H B y := by
  funext D; simp only [hset]; split <;> rfl

end

attribute [go_sem] enterPK.eq_1 enterPK.eq_2 enterPF.eq_1 panicK.eq_1 panicK.eq_2 astepP.eq_1 astepP.eq_2 astepP.eq_3 aregP.eq_1 aregP.eq_2

end Go.Ab
