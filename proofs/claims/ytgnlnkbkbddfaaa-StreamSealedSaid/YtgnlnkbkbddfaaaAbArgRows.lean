/- Ab.ArgRows: a law's call from outside. -/
import Derived.Test.YtgnlnkbkbddfaaaAbArgs
import Derived.Test.YtgnlnkbkbddfaaaAbWOctets
import Derived.Test.YtgnlnkbkbddfaaaAbLists
import Derived.Below
namespace Go.Ab
open Go.RowKit

section
variable {P : Program} {T : Types} {W : World}

/-- A law that tells true tells it from outside too, and leaves what was there. -/
theorem acalls_calls {f : FuncId} {xs : List AV} {vs : Array Value} (h : ∀ K : AV → Hp → Prop, K (.sc (.bool true)) (fun _ => none) → ACalls P f xs (fun _ => none) K) (hl : vs.size = xs.length)
    (hv : ∀ (i : Nat) (x : AV) (v : Value), xs[i]? = some x → vs[i]? = some v → Rep (g0 W) W x v) : Calls P f vs W (fun e W' => e = .returned (.bool true) ∧ Below W.heap.size W W') := by
  have h' := h (fun x _ => x = .sc (.bool true)) rfl
  refine (h'.2 0 (g0 W) W vs (inv0 W) (fun B b hB => by cases hB) hl fun i x v hx hvv => rep_slot (hv i x v hx hvv)).mono ?_
  rintro en W' ⟨g', x, v, H', t, rfl, hg, _, _, hs, rfl⟩
  have hr : Rep g' W' (.sc (.bool true)) v := hs
  cases hr with
  | sc _ _ =>
    refine ⟨rfl, hg.keep.env.1, hg.keep.env.2.2, hg.keep.env.2.1, hg.keep.size, fun k hk => ?_⟩
    exact (hg.prot k .blk (if_pos hk) (fun hf => hf rfl)).2.2.2

/-- One value that comes in, not an aggregate's. -/
theorem rep_one {H : Type} {enc : TypeId × Value → H} {base : Nat} {sp : Nat → Bool} {held : Bool} (hT : TOk P T) (k : Nat) {t : TypeId} {v : Value} {d : DataW H} {ps : List MemPlace} (hok : okT T k t = true) (h : DataW.Trod enc P W base sp held t v d ps) (hv : v.cells = #[v]) :
    ∃ x, ShpA T k t [x] ∧ Rep (g0 W) W x v := by
  obtain ⟨fuel, hf⟩ := h
  obtain ⟨xs, h1, h2, h3, h4⟩ := trod_rep hT k fuel t _ d ps hok hf
  rw [hv] at h3 h4
  obtain ⟨x, rfl⟩ := List.length_eq_one_iff.1 h3
  exact ⟨x, h1, (h4 0 x v rfl (by simp)).1⟩

/-- One aggregate that comes in. -/
theorem rep_agg {H : Type} {enc : TypeId × Value → H} {base : Nat} {sp : Nat → Bool} {held : Bool} (hT : TOk P T) (k : Nat) {t : TypeId} {cs : Array Value} {d : DataW H} {ps : List MemPlace} (hok : okT T k t = true) (h : DataW.Trod enc P W base sp held t (.agg cs) d ps) :
    ∃ xs, ShpA T k t xs ∧ Rep (g0 W) W (.agg xs) (.agg cs) := by
  obtain ⟨fuel, hf⟩ := h
  obtain ⟨xs, h1, h2, h3, h4⟩ := trod_rep hT k fuel t _ d ps hok hf
  refine ⟨xs, h1, .agg xs cs (by simpa [Value.cells] using h3.symm) (fun i v hv => ?_) fun i x v hx hv => (h4 i x v hx (by simpa [Value.cells] using hv)).1⟩
  have hlt := (Array.getElem?_eq_some_iff.1 hv).1
  have hlt2 : i < xs.length := by rw [h3]; simpa [Value.cells] using hlt
  exact (h4 i xs[i] v (by simp [hlt2]) (by simpa [Value.cells] using hv)).2

theorem shp_int {k : Nat} {t : TypeId} {sz bz : Nat} {kd : IntKind} {z : List Value} {xs : List AV} (ht : T t = some ⟨sz, bz, .int kd, z⟩) (h : ShpA T (k + 1) t xs) : ∃ n : Int, (Lit.int kd n).wf = true ∧ xs = [.sc (.int kd n)] := by
  unfold ShpA at h; rw [ht] at h; exact h
theorem shp_bool {k : Nat} {t : TypeId} {sz bz : Nat} {z : List Value} {xs : List AV} (ht : T t = some ⟨sz, bz, .bool, z⟩) (h : ShpA T (k + 1) t xs) : ∃ b, xs = [.sc (.bool b)] := by
  unfold ShpA at h; rw [ht] at h; exact h
theorem shp_slice {k : Nat} {t e : TypeId} {sz bz : Nat} {z : List Value} {xs : List AV} (ht : T t = some ⟨sz, bz, .slice e, z⟩) (h : ShpA T (k + 1) t xs) :
    ∃ ys : List AV, ys.length ≤ maxLen ∧ xs = [.lst 0 ys] ∧ ∀ y ∈ ys, ShpA T k e y.cells ∧ (isAgg T e = true → ∃ cs, y = .agg cs) ∧ (isAgg T e = false → y.cells = [y]) := by
  unfold ShpA at h; rw [ht] at h; exact h
theorem shp_struct {k : Nat} {t : TypeId} {sz bz : Nat} {fs : List (Nat × TypeId)} {z : List Value} {xs : List AV} (ht : T t = some ⟨sz, bz, .struct fs, z⟩) (h : ShpA T (k + 1) t xs) :
    xs.length = sz ∧ ∀ f ∈ fs, ShpA T k f.2 ((xs.drop f.1).take (szT T f.2)) := by
  unfold ShpA at h; rw [ht] at h; exact h
theorem shp_arr {k : Nat} {t e : TypeId} {n sz bz : Nat} {z : List Value} {xs : List AV} (ht : T t = some ⟨sz, bz, .arr n e, z⟩) (h : ShpA T (k + 1) t xs) :
    xs.length = sz ∧ ∀ j, j < n → ShpA T k e ((xs.drop (j * szT T e)).take (szT T e)) := by
  unfold ShpA at h; rw [ht] at h; exact h

theorem exists_map {α β : Type} (f : α → β) (p : α → Prop) : ∀ {l : List β}, (∀ y ∈ l, ∃ x, f x = y ∧ p x) → ∃ m : List α, m.map f = l ∧ ∀ x ∈ m, p x
  | [], _ => ⟨[], rfl, by simp⟩
  | y :: l, h => by
    obtain ⟨x, h1, h2⟩ := h y (by simp)
    obtain ⟨m, h3, h4⟩ := exists_map f p (l := l) fun z hz => h z (by simp [hz])
    exact ⟨x :: m, by simp [h1, h3], fun z hz => by rcases List.mem_cons.1 hz with rfl | hz; exact h2; exact h4 z hz⟩

/-- A list of whole numbers. -/
theorem shp_ints {k : Nat} {t e : TypeId} {sz bz sz2 bz2 : Nat} {z z2 : List Value} {xs : List AV} (ht : T t = some ⟨sz, bz, .slice e, z⟩) (he : T e = some ⟨sz2, bz2, .int .i64, z2⟩) (h : ShpA T (k + 2) t xs) :
    ∃ l : List Int, l.length ≤ maxLen ∧ xs = [.lst 0 (ints l)] ∧ ∀ n ∈ l, (Lit.int .i64 n).wf = true := by
  obtain ⟨ys, h1, rfl, h2⟩ := shp_slice ht h
  obtain ⟨m, hm, hp⟩ := exists_map (fun n : Int => AV.sc (.int .i64 n)) (fun n => (Lit.int .i64 n).wf = true) (l := ys) fun y hy => by
    obtain ⟨q1, q2, q3⟩ := h2 y hy
    have ha : isAgg T e = false := by simp [isAgg, he, TI.agg]
    obtain ⟨n, hn, hx⟩ := shp_int he q1
    rw [q3 ha] at hx
    cases hx; exact ⟨n, rfl, hn⟩
  exact ⟨m, by rw [← hm] at h1; simpa using h1, by rw [← hm]; rfl, hp⟩

/-- A list of bytes. -/
theorem shp_bytes {k : Nat} {t e : TypeId} {sz bz sz2 bz2 : Nat} {z z2 : List Value} {xs : List AV} (ht : T t = some ⟨sz, bz, .slice e, z⟩) (he : T e = some ⟨sz2, bz2, .int .u8, z2⟩) (h : ShpA T (k + 2) t xs) :
    ∃ l : List (BitVec 8), l.length ≤ maxLen ∧ xs = [.lst 0 (bytes l)] := by
  obtain ⟨ys, h1, rfl, h2⟩ := shp_slice ht h
  obtain ⟨m, hm, _⟩ := exists_map u8 (fun _ => True) (l := ys) fun y hy => by
    obtain ⟨q1, q2, q3⟩ := h2 y hy
    have ha : isAgg T e = false := by simp [isAgg, he, TI.agg]
    obtain ⟨n, hn, hx⟩ := shp_int he q1
    rw [q3 ha] at hx
    cases hx
    simp [Lit.wf, IntKind.min, IntKind.max, IntKind.bits, IntKind.signed] at hn
    refine ⟨BitVec.ofNat 8 n.toNat, ?_, trivial⟩
    simp only [u8, BitVec.toNat_ofNat]
    congr 2
    omega
  exact ⟨m, by rw [← hm] at h1; simpa using h1, by rw [← hm]; rfl⟩

theorem u32_of_wf {n : Int} (h : (Lit.int .u32 n).wf = true) : ∃ a : BitVec 32, n = (a.toNat : Int) := by
  simp [Lit.wf, IntKind.min, IntKind.max, IntKind.bits, IntKind.signed] at h
  refine ⟨BitVec.ofNat 32 n.toNat, ?_⟩
  simp only [BitVec.toNat_ofNat]
  omega

end

/-- A list of batches. -/
theorem shp_bts {xs : List AV} (h : ShpA tab 4 25 xs) : ∃ l : List Bt, l.length ≤ maxLen ∧ xs = [.lst 0 (bts l)] ∧ ∀ b ∈ l, b.ids.length ≤ maxLen := by
  obtain ⟨ys, h1, rfl, h2⟩ := shp_slice tab_25 h
  obtain ⟨m, hm, hp⟩ := exists_map Bt.av (fun b => b.ids.length ≤ maxLen) (l := ys) fun y hy => by
    obtain ⟨q1, q2, q3⟩ := h2 y hy
    obtain ⟨cs, rfl⟩ := q2 (by simp [isAgg, tab_113, TI.agg])
    obtain ⟨hlen, hf⟩ := shp_struct tab_113 q1
    simp only [AV.cells] at hlen hf
    match cs, hlen, hf with
    | [c0, c1, c2, c3, c4, c5, c6], _, hf =>
      simp only [List.forall_mem_cons, List.drop_zero, List.drop_succ_cons, szT, tab_3, tab_4, tab_61, List.take_succ_cons, List.take_zero] at hf
      obtain ⟨f0, f1, f2, f3, f4, f5, f6, _⟩ := hf
      obtain ⟨n0, _, e0⟩ := shp_int tab_3 f0
      obtain ⟨n1, _, e1⟩ := shp_int tab_3 f1
      obtain ⟨n2, e2⟩ := shp_bool tab_4 f2
      obtain ⟨n3, _, e3⟩ := shp_int tab_3 f3
      obtain ⟨n4, _, e4⟩ := shp_int tab_3 f4
      obtain ⟨n5, _, e5⟩ := shp_int tab_3 f5
      obtain ⟨l6, hl, e6, _⟩ := shp_ints tab_61 tab_37 f6
      cases e0; cases e1; cases e2; cases e3; cases e4; cases e5; cases e6
      exact ⟨⟨n0, n1, n2, n3, n4, n5, l6⟩, rfl, hl⟩
  exact ⟨m, by rw [← hm] at h1; simpa using h1, by rw [← hm]; rfl, hp⟩

end Go.Ab
