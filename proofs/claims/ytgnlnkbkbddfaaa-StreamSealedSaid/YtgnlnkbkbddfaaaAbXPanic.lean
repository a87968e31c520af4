/- Ab.XPanic: a region whose order is open, in which a call panics: what comes ahead of it leaves the blocks as they are. -/
import Derived.Test.YtgnlnkbkbddfaaaAbPanic
namespace Go.Ab

section
variable {P : Program} {T : Types} {C : Cx} {H : Hp}

def onamesR (o : Oper) : List Nat := opTmps o.op.operands.toList

/-- The operations that may come ahead of operation k. -/
def aheadL (ops : Array Oper) (k : Nat) : List Nat := (List.range ops.size).filter fun i => i != k && !(behind ops k ops.size).getD i false

/-- The look at slots, that the kernel carries out. -/
def xLook (nt : Nat) (ops : Array Oper) (k : Nat) (ah : List Nat) : Bool :=
  (aheadL ops k == ah) && decide (k < ops.size) &&
  (List.range ops.size).all fun j => match ops[j]? with
    | none => false
    | some o =>
      (o.after.toList.all fun ed => !Region.binds .any ed || decide (ed.on < j)) &&
      (!(ah.contains j || j == k) ||
        (o.guard.isNone && dstOk nt o.dst && (j == k || o.dst.isSome) && disj o.dst.toList (onamesR o) &&
         ah.all fun i => i == j || (match ops[i]? with
            | some x => (waits o i && decide (i < j) || disj x.dst.toList (onamesR o)) && disj x.dst.toList o.dst.toList
            | none => false)))

structure XOk (nt : Nat) (ops : Array Oper) (k : Nat) (ah : List Nat) : Prop where
  lt : k < ops.size
  mem : ∀ i, i ∈ ah ↔ (i < ops.size ∧ i ≠ k ∧ (behind ops k ops.size).getD i false = false)
  edge : ∀ j o, ops[j]? = some o → ∀ ed ∈ o.after, Region.binds .any ed = true → ed.on < j
  plain : ∀ j o, ops[j]? = some o → (j ∈ ah ∨ j = k) → o.guard = none ∧ dstOk nt o.dst = true ∧ (j = k ∨ ∃ t, o.dst = some t) ∧ ∀ t ∈ o.dst.toList, t ∉ onamesR o
  pair : ∀ j o, ops[j]? = some o → (j ∈ ah ∨ j = k) → ∀ i ∈ ah, i ≠ j → ∃ x, ops[i]? = some x ∧ ((waits o i = true ∧ i < j) ∨ ∀ t ∈ x.dst.toList, t ∉ onamesR o) ∧ ∀ t ∈ x.dst.toList, t ∉ o.dst.toList

theorem XOk_of {nt : Nat} {ops : Array Oper} {k : Nat} {ah : List Nat} (h : xLook nt ops k ah = true) : XOk nt ops k ah := by
  simp only [xLook, Bool.and_eq_true, beq_iff_eq, decide_eq_true_eq, List.all_eq_true, List.mem_range] at h
  obtain ⟨⟨h1, h2⟩, h3⟩ := h
  have key : ∀ j o, ops[j]? = some o → _ := fun j o ho => by
    have hj := (Array.getElem?_eq_some_iff.1 ho).1
    have := h3 j hj
    rw [ho] at this
    exact this
  refine ⟨h2, fun i => by rw [← h1]; simp [aheadL], fun j o ho ed he hb => ?_, fun j o ho hj => ?_, fun j o ho hj i hi hij => ?_⟩
  · have := key j o ho
    simp only [Bool.and_eq_true, List.all_eq_true] at this
    have := this.1 ed (by simpa using he)
    simpa [hb] using this
  · have := key j o ho
    have hc : (ah.contains j || j == k) = true := by rcases hj with hj | hj <;> simp [hj]
    simp only [hc, Bool.not_true, Bool.false_or, Bool.and_eq_true, Bool.or_eq_true, beq_iff_eq] at this
    obtain ⟨_, ⟨⟨⟨a1, a2⟩, a3⟩, a4⟩, _⟩ := this
    exact ⟨by simpa using a1, a2, a3.imp id (fun h => Option.isSome_iff_exists.1 h), fun t ht => disj_spec a4 ht⟩
  · have := key j o ho
    have hc : (ah.contains j || j == k) = true := by rcases hj with hj | hj <;> simp [hj]
    simp only [hc, Bool.not_true, Bool.false_or, Bool.and_eq_true, List.all_eq_true] at this
    have := this.2.2 i hi
    simp only [Bool.or_eq_true, beq_iff_eq, hij, false_or] at this
    cases hx : ops[i]? with
    | none => rw [hx] at this; cases this
    | some x =>
      rw [hx] at this
      simp only [Bool.and_eq_true, Bool.or_eq_true, decide_eq_true_eq] at this
      exact ⟨x, rfl, this.1.imp (fun h => h) (fun h t ht => disj_spec h ht), fun t ht => disj_spec this.2 ht⟩

def pureX : Option (Prop × AV) → Option Tmp → (Env → Prop) → Env → Prop
  | some (p, x), some t, K, e => p ∧ K (upd e t x)
  | _, _, _, _ => False

/-- What may come ahead, in the text's order. -/
def xrun (T : Types) (ah : List Nat) (H : Hp) (K : Env → Prop) : Nat → List Oper → Env → Prop
  | _, [], e => K e
  | i, o :: os, e => bif ah.contains i then pureX (apure T o.op e H) o.dst (xrun T ah H K (i + 1) os) e else xrun T ah H K (i + 1) os e

theorem pureX_inv {r : Option (Prop × AV)} {dst : Option Tmp} {K : Env → Prop} {e : Env} (h : pureX r dst K e) : ∃ p x t, r = some (p, x) ∧ dst = some t ∧ p ∧ K (upd e t x) := by
  unfold pureX at h
  split at h
  · exact ⟨_, _, _, rfl, rfl, h⟩
  · exact h.elim

theorem xrun_inv {nt : Nat} {ops : Array Oper} {k : Nat} {ah : List Nat} (hok : XOk nt ops k ah) {K : Env → Prop} : ∀ (os : List Oper) (i : Nat) (e : Env), ops.toList.drop i = os → xrun T ah H K i os e →
    ∃ ef, (∀ j o, i ≤ j → ops[j]? = some o → j ∈ ah → ∃ p x t, o.dst = some t ∧ apure T o.op ef H = some (p, x) ∧ p ∧ ef t = x) ∧ (∀ t, (∀ j o, i ≤ j → j ∈ ah → ops[j]? = some o → o.dst ≠ some t) → ef t = e t) ∧ K ef
  | [], i, e, hd, h => by
    refine ⟨e, fun j o hij ho _ => ?_, fun t _ => rfl, h⟩
    have hj := (Array.getElem?_eq_some_iff.1 ho).1
    have := congrArg List.length hd
    simp at this
    omega
  | o :: os, i, e, hd, h => by
    have hi : ops[i]? = some o := by
      have : (ops.toList.drop i)[0]? = some o := by rw [hd]; rfl
      rw [List.getElem?_drop] at this
      simpa using this
    have hd2 : ops.toList.drop (i + 1) = os := by rw [← List.drop_drop, hd]; rfl
    simp only [xrun] at h
    cases hc : ah.contains i with
    | false =>
      rw [hc] at h
      have hni : i ∉ ah := by simpa using hc
      obtain ⟨ef, a1, a2, a3⟩ := xrun_inv hok os (i + 1) e hd2 h
      refine ⟨ef, fun j o' hij ho hj => a1 j o' ?_ ho hj, fun t ht => a2 t fun j o' hij hj ho => ht j o' (by omega) hj ho, a3⟩
      have : i ≠ j := fun hh => hni (hh ▸ hj)
      omega
    | true =>
      rw [hc] at h
      have hmi : i ∈ ah := by simpa using hc
      obtain ⟨p, x, t, hap, hdst, hp, hk⟩ := pureX_inv h
      obtain ⟨ef, a1, a2, a3⟩ := xrun_inv hok os (i + 1) _ hd2 hk
      have hself := (hok.plain i o hi (.inl hmi)).2.2.2
      have hlater : ∀ u, u = t ∨ u ∈ onamesR o → ∀ j o', i + 1 ≤ j → j ∈ ah → ops[j]? = some o' → o'.dst ≠ some u := fun u hu j o' hij hj ho' hdd => by
        obtain ⟨x', hx', h1, h2⟩ := hok.pair i o hi (.inl hmi) j hj (by omega)
        rw [ho'] at hx'; cases hx'
        rcases hu with rfl | hu
        · exact h2 u (by rw [hdd]; simp) (by rw [hdst]; simp)
        · rcases h1 with ⟨_, h1⟩ | h1
          · omega
          · exact h1 u (by rw [hdd]; simp) hu
      refine ⟨ef, fun j o' hij ho hj => ?_, fun u hu => ?_, a3⟩
      · by_cases hji : j = i
        · subst hji
          rw [hi] at ho; cases ho
          refine ⟨p, x, t, hdst, ?_, hp, ?_⟩
          · rw [← hap]
            refine apure_congr fun u hu => ?_
            rw [a2 u (hlater u (.inr hu)), upd, if_neg]
            intro hut
            exact hself t (by rw [hdst]; simp) (hut ▸ hu)
          · rw [a2 t (hlater t (.inl rfl)), upd, if_pos rfl]
        · exact a1 j o' (by omega) ho hj
      · rw [a2 u fun j o' hij hj ho => hu j o' (by omega) hj ho, upd, if_neg]
        intro hut
        exact hu i o (Nat.le_refl _) hmi hi (by rw [hdst, hut])

/-- How many are still to come. -/
def undone (n : Nat) (l : Array Bool) : Nat := (List.range n).countP fun i => !l.getD i false

theorem undone_set {n : Nat} {l : Array Bool} {i : Nat} (hi : l.getD i false = false) (hs : i < l.size) : ∀ m, (i < m → undone m (l.setIfInBounds i true) + 1 = undone m l) ∧ (m ≤ i → undone m (l.setIfInBounds i true) = undone m l)
  | 0 => ⟨by omega, fun _ => rfl⟩
  | m + 1 => by
    obtain ⟨h1, h2⟩ := undone_set (n := n) hi hs m
    simp only [undone, List.range_succ, List.countP_append, List.countP_cons, List.countP_nil] at h1 h2 ⊢
    constructor
    · intro hlt
      by_cases him : i = m
      · subst him
        have h3 := h2 (Nat.le_refl _)
        rw [getD_set_true' hs, hi]
        simp only [Bool.not_true, Bool.not_false, Bool.false_eq_true, if_true, if_false]
        omega
      · have h3 := h1 (by omega)
        rw [getD_set_ne false him]
        omega
    · intro hle
      have h3 := h2 (by omega)
      rw [getD_set_ne false (by omega)]
      omega
where
  getD_set_true' {l : Array Bool} {i : Nat} (hs : i < l.size) : (l.setIfInBounds i true).getD i false = true := by
    rw [Array.getD_eq_getD_getElem?, Array.getElem?_setIfInBounds_self_of_lt hs]; rfl

theorem undone_pos {n : Nat} {l : Array Bool} {k : Nat} (hk : k < n) (h : l.getD k false = false) : 0 < undone n l := by
  unfold undone
  rw [List.countP_pos_iff]
  exact ⟨k, List.mem_range.2 hk, by simp [h]⟩

theorem exists_ready {ops : Array Oper} {l : Array Bool} (hsz : l.size = ops.size) (hedge : ∀ j o, ops[j]? = some o → ∀ ed ∈ o.after, Region.binds .any ed = true → ed.on < j) : ∀ n, n < ops.size → l.getD n false = false → Region.ready .any ops l ≠ [] := by
  intro n
  induction n using Nat.strongRecOn with
  | _ n ih =>
    intro hn hl hnil
    by_cases hall : ∀ ed ∈ (ops[n]'hn).after, Region.binds .any ed = true → l.getD ed.on false = true
    · have : n ∈ Region.ready .any ops l := mem_ready.2 ⟨by
        rw [Array.getD_eq_getD_getElem?, Array.getElem?_eq_getElem (by omega)] at hl ⊢
        simpa using hl, ops[n], Array.getElem?_eq_getElem hn, hall⟩
      rw [hnil] at this; cases this
    · simp only [Classical.not_forall] at hall
      obtain ⟨ed, he, hb, hd⟩ := hall
      have hlt := hedge n _ (Array.getElem?_eq_getElem hn) ed he hb
      exact ih ed.on hlt (by omega) (by simpa using hd) hnil

/-- The call that panics. -/
def callX (P : Program) (H : Hp) (KP : List PanicEntry → Hp → Prop) : Option (Bool × AV) → Option (Bool × List AV) → Prop
  | some (b, .sc (.func (.func f) fi ca)), some (c, xs) => (b && c && fi.toList.all one && ca.toList.all one) = true ∧ ACallsP P f (fi.toList.map AV.sc ++ xs ++ ca.toList.map AV.sc) H (fun _ _ => False) KP
  | _, _ => False

theorem callX_inv {KP : List PanicEntry → Hp → Prop} {r : Option (Bool × AV)} {q : Option (Bool × List AV)} (h : callX P H KP r q) :
    ∃ b f fi ca c xs, r = some (b, .sc (.func (.func f) fi ca)) ∧ q = some (c, xs) ∧ (b && c && fi.toList.all one && ca.toList.all one) = true ∧ ACallsP P f (fi.toList.map AV.sc ++ xs ++ ca.toList.map AV.sc) H (fun _ _ => False) KP := by
  unfold callX at h
  split at h
  · exact ⟨_, _, _, _, _, _, rfl, rfl, h⟩
  · exact h.elim

theorem xany (hT : TOk P T) {ops : Array Oper} {k : Nat} {ah : List Nat} (hok : XOk C.nt ops k ah) {dst : Option Tmp} {F : Operand} {ags : Array Operand} {ts : Array TypeId} {ty : TypeId} {ps : String} {af : Array Edge}
    (hk : ops[k]? = some ⟨dst, .call ⟨.value F, ags, ts⟩, ty, ps, af, none⟩) {Q : Exit → Env → Hp → Prop} {ef : Env}
    (hp : ∀ j o, ops[j]? = some o → j ∈ ah → ∃ p x t, o.dst = some t ∧ apure T o.op ef H = some (p, x) ∧ p ∧ ef t = x)
    (hc : callX P H (fun ch H' => ∀ e', Q (.panic ch) e' H') (arg ef F) (args ef ags.toList)) :
    ∀ (f : Nat) (l : Array Bool) (e : Env), undone ops.size l ≤ f → l.size = ops.size → Closed ops l → l.getD k false = false → (∀ t, (∀ j o, j ∈ ah → l.getD j false = false → ops[j]? = some o → o.dst ≠ some t) → e t = ef t) →
    ∀ g a w, SRel g C e H a w → ∀ Q' : Exit → Act → World → Prop, (∀ ex g' a' w' e' H', Guar C.d H H' g w g' w' → SRel g' C e' H' a' w' → Q ex e' H' → Q' ex a' w') → wpAny P .any ops Q' f l a w
  | 0, l, e, hf, _, _, hl, _, _, _, _, _, _, _ => by
    have := undone_pos hok.lt hl
    omega
  | f + 1, l, e, hf, hsz, hcl, hl, hinv, g, a, w, hr, Q', hQ => by
    refine ⟨fun hn => absurd hn (exists_ready hsz hok.edge k hok.lt hl), fun i hi => ?_⟩
    obtain ⟨hjun, o, ho, hall⟩ := mem_ready.1 hi
    have his : i < ops.size := (Array.getElem?_eq_some_iff.1 ho).1
    have hil : l.getD i false = false := by
      rw [Array.getD_eq_getD_getElem?] at hjun ⊢
      rw [Array.getElem?_eq_getElem (by omega)] at hjun ⊢
      simpa using hjun
    have hnb := not_behind hcl (n := ops.size) hl i his (fun o' ho' ed he hb => by rw [ho] at ho'; cases ho'; exact hall ed he hb)
    have hread : (i ∈ ah ∨ i = k) → ∀ u ∈ onamesR o, e u = ef u := fun hik u hu => hinv u fun j o' hj hjl ho' hdd => by
      by_cases hji : j = i
      · subst hji
        rw [ho] at ho'; cases ho'
        exact (hok.plain j o ho hik).2.2.2 u (by rw [hdd]; simp) hu
      · obtain ⟨x', hx', h1, _⟩ := hok.pair i o ho hik j hj hji
        rw [ho'] at hx'; cases hx'
        rcases h1 with ⟨h1, _⟩ | h1
        · obtain ⟨ed, he, hb, hon⟩ := waits_edge h1
          have := hall ed he hb
          rw [hon, hjl] at this; cases this
        · exact h1 u (by rw [hdd]; simp) hu
    by_cases hik : i = k
    · subst hik
      rw [hk] at ho; cases ho
      obtain ⟨b, fn, fi, ca, c, xs, hF, hxs, h1, h2⟩ := callX_inv hc
      simp only [Bool.and_eq_true] at h1
      obtain ⟨⟨⟨rfl, rfl⟩, h3⟩, h4⟩ := h1
      have hrd := hread (.inr rfl)
      simp only [onamesR, Op.operands] at hrd
      have hF' : arg e F = some (true, .sc (.func (.func fn) fi ca)) := by
        rw [← hF]
        refine arg_congr fun u hu => hrd u ?_
        simp only [opTmps, List.mem_filterMap] at hu ⊢
        obtain ⟨y, hy, hyu⟩ := hu
        simp only [List.mem_singleton] at hy; subst hy
        exact ⟨y, by simp [Call.operands], hyu⟩
      have hx' : args e ags.toList = some (true, xs) := by
        rw [← hxs]
        refine args_congr fun u hu => hrd u ?_
        simp only [opTmps, List.mem_filterMap] at hu ⊢
        obtain ⟨y, hy, hyu⟩ := hu
        exact ⟨y, by simp only [Call.operands]; simp; exact .inr (by simpa using hy), hyu⟩
      have hst := AOp_callP (C := C) (K := fun _ _ => False) (Kx := Q) hk (fun _ _ _ _ => rfl) (hok.plain i _ hk (.inr rfl)).2.1 rfl hF' (fun v hv => by
        rcases List.mem_append.1 hv with hv | hv
        · exact List.all_eq_true.1 h3 v hv
        · exact List.all_eq_true.1 h4 v hv) hx' (h2.mono (fun _ _ h => h.elim) fun ch H' h => h e)
      exact hst g a w hr _ Q' (fun _ _ _ _ _ _ _ h => h.elim) hQ
    · have hia : i ∈ ah := (hok.mem i).2 ⟨his, hik, hnb⟩
      obtain ⟨p, x, t, hdst, hap, hpp, het⟩ := hp i o ho hia
      obtain ⟨hg, hd, _, _⟩ := hok.plain i o ho (.inl hia)
      have hap2 : apure T o.op e H = some (p, x) := by
        rw [← hap]; exact apure_congr fun u hu => hread (.inl hia) u hu
      have hst := AOp_pureK (C := C) (P := P) (K := fun e' H' => upd e t x = e' ∧ H = H') (Kx := Q) hT ho hg hd (by rw [hap2, hdst]; exact ⟨hpp, rfl, rfl⟩)
      refine hst g a w hr _ Q' (fun g' a' w' e' H' k1 k2 k3 => ?_) hQ
      obtain ⟨k3a, k3b⟩ := k3
      subst k3a; subst k3b
      have hls : i < l.size := by omega
      refine xany hT hok hk hp hc f _ _ (by have := (undone_set (n := ops.size) hil hls ops.size).1 his; omega) (by simpa using hsz) (closed_set hcl hi) (by rw [getD_set_ne false hik]; exact hl) (fun u hu => ?_) g' a' w' k2 Q'
        fun ex g2 a2 w2 e2 H2 m1 m2 m3 => hQ ex g2 a2 w2 e2 H2 (k1.trans m1) m2 m3
      by_cases hut : u = t
      · subst hut; simp [upd, het]
      · rw [upd, if_neg hut]
        refine hinv u fun j o' hj hjl ho' => ?_
        by_cases hji : j = i
        · subst hji; rw [ho] at ho'; cases ho'
          rw [hdst]; intro hh; cases hh; exact hut rfl
        · exact hu j o' hj (by rw [getD_set_ne false (fun h => hji h.symm)]; exact hjl) ho'

/-- A region whose order is open, whose operation k is a call that panics. -/
theorem AWp_panics (hT : TOk P T) (hm : P.follows .mixedOrders = true) {id : Nat} {ops : Array Oper} (k : Nat) (ah : List Nat) {Q : Exit → Env → Hp → Prop} {e : Env} {dst : Option Tmp} {F : Operand} {ags : Array Operand} {ts : Array TypeId} {ty : TypeId} {ps : String} {af : Array Edge}
    (hok : xLook C.nt ops k ah = true) (hk : ops[k]? = some ⟨dst, .call ⟨.value F, ags, ts⟩, ty, ps, af, none⟩)
    (h : xrun T ah H (fun ef => callX P H (fun ch H' => ∀ e', Q (.panic ch) e' H') (arg ef F) (args ef ags.toList)) 0 ops.toList e) : AWp P C (.region id ops true) Q e H := by
  intro g a w' hr
  refine wp_region_any hm ?_
  have hkp : Keep g w' g { w' with drawn := w'.drawn + 1 } := ⟨Nat.le_refl _, fun _ => Nat.le_refl _, fun _ _ _ => rfl, ⟨rfl, rfl, rfl⟩⟩
  have hs : ∀ o, SameOf o g w' g { w' with drawn := w'.drawn + 1 } := fun _ _ h => ⟨h, rfl, rfl⟩
  have hr2 : SRel g C e H a { w' with drawn := w'.drawn + 1 } := ⟨⟨hr.inv.fresh, hr.inv.cells⟩, fun B b hb => ⟨(hr.heap B b hb).1, (hr.heap B b hb).2.keep hkp (hs _) (hr.heap B b hb).1 fun _ => hs _⟩, hr.defers, hr.size,
    fun t ht => let ⟨v, h1, h2⟩ := hr.slots t ht; ⟨v, h1, h2.keep hkp (hs _)⟩⟩
  have hg : Guar C.d H H g w' g { w' with drawn := w'.drawn + 1 } := ⟨hkp, fun _ _ h hf => ⟨h, hf, rfl, rfl⟩⟩
  have hX := XOk_of hok
  obtain ⟨ef, a1, a2, a3⟩ := xrun_inv hX ops.toList 0 e rfl h
  have hrep : ∀ j, (Array.replicate ops.size false).getD j false = false := fun j => by
    rw [Array.getD_eq_getD_getElem?, Array.getElem?_replicate]; split <;> rfl
  refine xany hT hX hk (fun j o ho hj => a1 j o (Nat.zero_le _) ho hj) a3 ops.size (Array.replicate ops.size false) e (Nat.le_trans (List.countP_le_length) (by simp)) (by simp) (fun j o hj => by rw [hrep j] at hj; cases hj) (hrep k)
    (fun t ht => (a2 t fun j o _ hj ho => ht j o hj (hrep j) ho).symm) g a _ hr2 _ fun ex g' a' w2 e' H' k1 k2 k3 => ⟨g', e', H', hg.trans k1, k2, k3⟩

end

attribute [go_sem] pureX.eq_1 pureX.eq_2 xrun.eq_1 xrun.eq_2 callX.eq_1 callX.eq_2

end Go.Ab
