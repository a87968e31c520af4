/- Ab.Defer: a function that defers a call that lets a panic be an error. -/
import Derived.Test.YtgnlnkbkbddfaaaAbCaught
import Derived.Test.YtgnlnkbkbddfaaaAbHeap
import Derived.Laws.Tables
namespace Go.Ab

theorem setCell_row {w : World} {B : Nat} {x y : Value} {E : TypeId} (hw : w.heap[B]? = some (.cells #[x] E (0, 0))) : w.setCell ⟨B, 0, none⟩ y = w.setRow B #[y] := by
  have hlt : B < w.heap.size := (Array.getElem?_eq_some_iff.1 hw).1
  have hx : w.heap[B] = .cells #[x] E (0, 0) := (Array.getElem?_eq_some_iff.1 hw).2
  unfold World.setCell World.setRow
  congr 1
  apply Array.ext_getElem?
  intro i
  simp only [Array.getElem?_modify]
  split
  · rename_i h; subst h; rw [hw]; simp
  · rfl

section
variable {P : Program} {T : Types} {C : Cx} {e : Env} {H : Hp} {g : Gh} {w : World} {a : Act}

/-- How a body ends that deferred such a call: it tells what it says, or it panicked so, and its error's cell is told. -/
def retD (T : Types) (rs : List ResultVar) (K : AV → Hp → Prop) (ch : List PanicEntry) (s B : Nat) (ex : Exit) (e : Env) (H : Hp) : Prop :=
  ((ex = .normal ∨ ex = .ret) ∧ ∃ p x H', ares T rs e H = some (p, x) ∧ p ∧ (∀ B b, H' B = some b → H B = some b) ∧ K x H') ∨
  (ex = .panic ch ∧ ∃ n p x H', e s = .sc (.pointer (some ⟨B, 0, none⟩)) ∧ H B = some (.cells [.sc (.int .i64 n)]) ∧ ares T rs (ofL [(s, .sc (.pointer (some ⟨B, 0, none⟩)))]) (hset H B (.cells [.sc (.int .i64 2)])) = some (p, x) ∧ p ∧
      (∀ D b, H' D = some b → hset H B (.cells [.sc (.int .i64 2)]) D = some b) ∧ K x H')

theorem retD_ret {rs : List ResultVar} {K : AV → Hp → Prop} {ch : List PanicEntry} {s B : Nat} {ex : Exit} (H' : Hp) (hh : ∀ B b, H' B = some b → H B = some b) (hex : ex = .normal ∨ ex = .ret) (h : retK H' K (ares T rs e H)) : retD T rs K ch s B ex e H :=
  .inl (retQ_mk H' hh hex h)

theorem retD_panic {rs : List ResultVar} {K : AV → Hp → Prop} {ch : List PanicEntry} {s B : Nat} (n : Int) (hs : e s = .sc (.pointer (some ⟨B, 0, none⟩))) (hB : H B = some (.cells [.sc (.int .i64 n)])) (H' : Hp)
    (hh : ∀ D b, H' D = some b → hset H B (.cells [.sc (.int .i64 2)]) D = some b) (h : retK H' K (ares T rs (ofL [(s, .sc (.pointer (some ⟨B, 0, none⟩)))]) (hset H B (.cells [.sc (.int .i64 2)])))) : retD T rs K ch s B (.panic ch) e H := by
  unfold retK at h
  split at h
  · rename_i p x hq
    exact .inr ⟨rfl, n, p, x, H', hs, hB, hq, h.1, hh, h.2⟩
  · exact h.elim

theorem SRel.ds (hr : SRel g C e H a w) {d2 : List Deferred} {a2 : Act} (h1 : a2.tmps = a.tmps) (h2 : a2.defers = d2) : SRel g ⟨C.d, d2, C.nt⟩ e H a2 w :=
  ⟨hr.inv, hr.heap, h2, by rw [h1]; exact hr.size, fun t ht => by rw [h1]; exact hr.slots t ht⟩

/-- A function whose body first makes its error's cell (x), then defers a call, then goes on. -/
theorem ACalls_defer (hT : TOk P T) {f fc : FuncId} {fn fnc : Func} {x rest : Code} {xs : List AV} {H : Hp} {K : AV → Hp → Prop} {id s : Nat} {ts : Array TypeId} {ty : TypeId} {ps : String} {af : Array Edge} (hf : P.funcs[f]? = some fn) (nt : Nat) (rs : List ResultVar) (ch : List PanicEntry) (ch' : PanicEntry)
    (hb : fn.body = some (.seq x (.seq (.region id #[⟨none, .defer ⟨.value (.func fc), #[.tmp s], ts⟩, ty, ps, af, none⟩] false) rest))) (hnt : fn.ntmps = nt) (hrs : fn.results.toList = rs) (hn : (fn.name == "runtime.NumGoroutine") = false)
    (hfc : P.funcs[fc]? = some fnc) (hbc : fnc.body.isNone = false) (hnc : (fnc.name == "runtime.NumGoroutine") = false) (hch : settle (.panicking [ch']) = .returning)
    (hidle : ∀ (p : Addr) (w : World), CallsD P fc #[.pointer (some p)] .returning w fun e u' w' => e = .returned (.tuple #[]) ∧ u' = .returning ∧ w' = w)
    (hbad : ∀ (B : Nat) (x : Value) (E : TypeId) (w : World), w.heap[B]? = some (.cells #[x] E (0, 0)) → CallsD P fc #[.pointer (some ⟨B, 0, none⟩)] (.panicking ch) w fun e u' w' => e = .returned (.tuple #[]) ∧ u' = .panicking [ch'] ∧ w' = w.setCell ⟨B, 0, none⟩ (.int .i64 2))
    (h : ∀ d, AWp P ⟨d + 1, [], nt⟩ x (fun ex e H' => ex = .normal ∧ ∃ B, e s = .sc (.pointer (some ⟨B, 0, none⟩)) ∧
      AWp P ⟨d + 1, [{ target := .fn (.func fc) #[], args := #[.pointer (some ⟨B, 0, none⟩)] }], nt⟩ rest (retD T rs K ch s B) e H') (ofL (argL 0 xs)) H) : ACalls P f xs H K := by
  subst hnt hrs
  refine ⟨⟨fn, hf, by rw [hb]; rfl, hn⟩, fun d g w vs hi hh hl hv => ?_⟩
  refine calls_of_wp_defers hf hb ?_
  refine wp_seq (wp_mono (h d g { tmps := vs ++ Array.replicate (fn.ntmps - vs.size) undef, defers := [] } w ⟨hi, hh, rfl, by simp; omega, fun t ht => ?_⟩) ?_)
  · rw [ofL_argL] at ht ⊢
    simp only [Nat.zero_le, if_true, Nat.sub_zero] at ht ⊢
    cases hx : xs[t]? with
    | none => rw [hx] at ht; exact absurd rfl ht
    | some y =>
      have hlt := lt_of_getElem? hx
      rw [← hl] at hlt
      refine ⟨vs[t], by rw [Array.getElem?_append_left hlt]; simp, ?_⟩
      exact hv t y _ hx (by simp)
  rintro ex a1 w1 ⟨g1, e1, H1, k1, k2, rfl, B, hs, hrest⟩
  have hev : a1.eval (.tmp s) = .pointer (some ⟨B, 0, none⟩) := (arg_sc (e := e1) (X := .tmp s) k2.cslots (by simp only [arg, hs, unmay]) rfl).1
  have hd0 : a1.defers = [] := k2.defers
  show Code.wp P _ _ a1 w1
  refine wp_seq (wp_region ?_)
  simp only [Array.size, List.length_cons, List.length_nil, List.range, List.range.loop]
  unfold wpOps
  simp only [List.getElem?_toArray, List.getElem?_cons_zero, Region.wanted, if_true]
  left
  unfold Oper.wp
  have hrun : (execOp a1.eval ⟨none, .defer ⟨.value (.func fc), #[.tmp s], ts⟩, ty, ps, af, none⟩).run P w1 = .ok (.defer { target := .fn (.func fc) #[], args := #[.pointer (some ⟨B, 0, none⟩)] }) w1 := by
    have hef : a1.eval (.func fc) = .func (.func fc) #[] #[] := rfl
    simp [execOp, resolve, Deferred.ofValue, hev, hef]
  rw [hrun, Oper.upon_defer]
  simp only [wpOps, Act.put]
  show Code.wp P rest _ _ w1
  have k2' : SRel g1 ⟨d + 1, [{ target := .fn (.func fc) #[], args := #[.pointer (some ⟨B, 0, none⟩)] }], fn.ntmps⟩ e1 H1 { a1 with defers := { target := .fn (.func fc) #[], args := #[.pointer (some ⟨B, 0, none⟩)] } :: a1.defers } w1 := k2.ds rfl (by rw [hd0])
  refine wp_mono (hrest g1 _ w1 k2') ?_
  rintro ex a2 w2 ⟨g2, e2, H2, m1, m2, hq⟩
  have hdf : a2.defers = [{ target := .fn (.func fc) #[], args := #[.pointer (some ⟨B, 0, none⟩)] }] := m2.defers
  have hinv : ∀ w : World, (invoke (.fn (.func fc) #[]) #[.pointer (some ⟨B, 0, none⟩)]).run P w = .ok (.enter fc #[.pointer (some ⟨B, 0, none⟩)]) w := fun w => by
    simp only [invoke, callFunc, Sem.run_bind, run_program, Result.andThen_ok, hfc, hbc, hnc, Sem.run_pure]
    simp
  rcases hq with ⟨hex, p, y, H3, n1, n2, n3, n4⟩ | ⟨rfl, n, p, y, H3, q1, q2, n1, n2, n3, n4⟩
  · obtain ⟨v, t, r1, r2⟩ := ares_sound hT m2 fn n1 n2
    have hfin : Leaves P fn a2.tmps (fun en w' => ∃ (g' : Gh) (x : AV) (v : Value) (H' : Hp) (t : Nat), en = .returned v ∧ Guar (d + 1) H H' g w g' w' ∧ Inv g' w' ∧ HRel g' w' H' ∧ SlotRep g' w' (.slot (d + 1) t) x v ∧ K x H') a2.defers .returning w2 := by
      rw [hdf]
      refine leaves_cons (by simp) (hinv w2) ((hidle _ w2).mono ?_)
      rintro en u' w' ⟨rfl, rfl, rfl⟩
      exact ⟨v, r1, g2, y, v, H3, t, rfl, (k1.trans m1).trans (Guar.weak (C := ⟨d + 1, [], 0⟩) n3), m2.inv, fun D b hD => m2.heap D b (n3 D b hD), r2, n4⟩
    rcases hex with rfl | rfl
    · exact hfin
    · exact hfin
  · obtain ⟨hown, c, E, c1, c2, c3, c4⟩ := m2.heap B _ q2
    obtain ⟨x0, rfl⟩ : ∃ x0, c = #[x0] := by
      have : c.size = 1 := c2
      refine ⟨c[0], ?_⟩
      apply Array.ext
      · simp [this]
      · intro i h1 h2; simp at h2; subst h2; rfl
    have m3 : SRel g2 ⟨d + 1, [{ target := .fn (.func fc) #[], args := #[.pointer (some ⟨B, 0, none⟩)] }], fn.ntmps⟩ (ofL [(s, .sc (.pointer (some ⟨B, 0, none⟩)))]) H2 a2 w2 := m2.weak ⟨fun t ht => by
      simp only [ofL] at ht ⊢
      split
      · rename_i h; rw [h, q1]
      · rename_i h; rw [if_neg h] at ht; exact absurd rfl ht, fun _ _ h => h⟩
    obtain ⟨r1, r2⟩ := m3.row (B := B) (by rw [q2]; simp) c1 c3 (c' := #[.int .i64 2]) (cs' := [.sc (.int .i64 2)]) rfl (fun i z v hz hv => by
      cases i with
      | zero => simp at hz hv; subst hz hv; exact ⟨.sc _ rfl, rfl⟩
      | succ i => simp at hz)
    obtain ⟨v, t, s1, s2⟩ := ares_sound hT r1 fn n1 n2
    show Leaves P fn a2.tmps _ a2.defers (.panicking ch) w2
    rw [hdf]
    refine leaves_cons (by simp) (hinv w2) ((hbad B x0 E w2 c1).mono ?_)
    rintro en u' w' ⟨rfl, rfl, rfl⟩
    rw [setCell_row c1]
    show Leaves P fn a2.tmps _ [] (settle (.panicking [ch'])) _
    rw [hch]
    exact ⟨v, s1, g2, y, v, H3, t, rfl, ((k1.trans m1).trans r2).trans (Guar.weak (C := ⟨d + 1, [], 0⟩) n3), r1.inv, fun D b hD => r1.heap D b (n3 D b hD), s2, n4⟩

end
end Go.Ab
