/- Ab.Draw: a region whose order is open: worked out in one order, where what is not ordered does commute. -/
import Derived.Test.YtgnlnkbkbddfaaaAbBaseC
import Derived.Attr
namespace Go.Ab

def opTmps (l : List Operand) : List Nat := l.filterMap fun | .tmp t => some t | _ => none

/-- A call that leaves all as it is. -/
def QCall (P : Program) (f : FuncId) (xs : List AV) (H : Hp) (x : AV) : Prop := ∀ K : AV → Hp → Prop, K x H → ACalls P f xs H K

def setMove (s t : Nat) (tk : Bool) : AV → Option (Prop × List (Nat × AV))
  | .lst 1 xs => if tk then some (True, [(s, .lst 0 xs), (t, .lst 1 xs)]) else some (True, [(t, .lst 0 xs)])
  | .lst 2 xs => if tk then some (True, [(s, .und), (t, .lst 2 xs)]) else none
  | .lst (_ + 3) _ => none
  | x => some (((unmay x).1 && (unmay x).2.frzn) = true, [(t, (unmay x).2.strip2)])

def setLit (T : Types) (n t : Nat) : Option TI → Option (Bool × List (Nat × AV)) → Option (Prop × List (Nat × AV))
  | some ⟨_, _, .slice et, _⟩, some (b, qs) => some (∃ ti, T et = some ti ∧ (b = true ∧ qs.map (·.1) = List.range' 0 n ∧ 0 < ti.size ∧ ti.zero.length = ti.size ∧ n * ti.size ≤ 16777216) ∧ (∀ x ∈ qs.map (·.2), x.cells.length = ti.size), [(t, .lst 2 (qs.map (·.2)))])
  | _, _ => none

def setAppend (T : Types) (s t : Nat) : Option TI → Option TI → AV → Option (Bool × AV) → Option (Prop × List (Nat × AV))
  | some ⟨_, _, .slice et, _⟩, some ⟨_, _, .slice _, _⟩, .lst m xs, some (b, .lst _ ys) =>
    some (∃ ti, T et = some ti ∧ (b = true ∧ ti.zero.length = ti.size ∧ 0 < ti.size ∧ ti.bytes ≤ 65536) ∧ (m = 1 ∨ m = 2) ∧ (∀ x ∈ xs, x.cells.length = ti.size) ∧ (∀ y ∈ ys, y.cells.length = ti.size) ∧ xs.length + ys.length ≤ 1073741824,
      [(s, (AV.lst m xs).rest), (t, .lst m (xs ++ ys))])
  | _, _, _, _ => none

def setCall (P : Program) (H : Hp) (t : Nat) : Option AV → Option (Bool × AV) → Option (Bool × List AV) → Option (Prop × List (Nat × AV))
  | some r, some (b, .sc (.func (.func f) fi ca)), some (c, xs) => some ((b && c && fi.toList.all one && ca.toList.all one) = true ∧ QCall P f (fi.toList.map AV.sc ++ xs ++ ca.toList.map AV.sc) H r, [(t, r)])
  | _, _, _ => none

def setPure (t : Nat) : Option (Prop × AV) → Option (Prop × List (Nat × AV))
  | some (p, x) => some (p, [(t, x)])
  | none => none

def setGuard (t : Nat) : Option Bool → Option (Prop × AV) → Option (Prop × List (Nat × AV))
  | some G, some (p, x) => some (G = true → p, [(t, .may G x)])
  | some false, none => some (True, [(t, .may false .und)])
  | _, _ => none

/-- A call under a guard. -/
def setGCall (P : Program) (H : Hp) (t : Nat) : Option Bool → Option AV → Option (Bool × AV) → Option (Bool × List AV) → Option (Prop × List (Nat × AV))
  | some G, some r, some (b, .sc (.func (.func f) fi ca)), some (c, xs) => some ((G = true → (b && c && fi.toList.all one && ca.toList.all one) = true ∧ ACalls P f (fi.toList.map AV.sc ++ xs ++ ca.toList.map AV.sc) H (tells r H)) ∧ r.frzn = true, [(t, .may G r.strip2)])
  | _, _, _, _ => none

def appendOf : List Operand → List TypeId → Option (Nat × Operand × TypeId × TypeId)
  | [.tmp s, X], [t1, t2] => some (s, X, t1, t2)
  | _, _ => none

def setApp (T : Types) (t : Nat) (e : Env) : Option (Nat × Operand × TypeId × TypeId) → Option (Prop × List (Nat × AV))
  | some (s, X, t1, t2) => setAppend T s t (T t1) (T t2) (e s) (arg e X)
  | none => none

/-- An operation that leaves the blocks as they are: its condition, and the slots that it writes. -/
def asetOp (P : Program) (T : Types) (cv : Option AV) (tk : Bool) (t : Nat) (e : Env) (H : Hp) : Op → Option (Prop × List (Nat × AV))
  | .move (.tmp s) => setMove s t tk (e s)
  | .assign (.tmp s) => setMove s t true (e s)
  | .buildSlice ty n ps => setLit T n t (T ty) (qargs e ps.toList)
  | .call ⟨.builtin .append, as, ts⟩ => setApp T t e (appendOf as.toList ts.toList)
  | .call ⟨.value F, as, _⟩ => setCall P H t cv (arg e F) (args e as.toList)
  | op => setPure t (apure T op e H)

def asetG (P : Program) (T : Types) (cv : Option AV) (t : Nat) (G : Option Bool) (e : Env) (H : Hp) : Op → Option (Prop × List (Nat × AV))
  | .call ⟨.value F, as, _⟩ => setGCall P H t G cv (arg e F) (args e as.toList)
  | op => setGuard t G (apure T op e H)

def aset (P : Program) (T : Types) (cv : Option AV) (ops : Array Oper) (tk : Bool) (e : Env) (H : Hp) : Oper → Option (Prop × List (Nat × AV))
  | ⟨some t, op, _, _, _, none⟩ => asetOp P T cv tk t e H op
  | ⟨some t, op, _, _, _, some (j, want)⟩ => asetG P T cv t (gdst ops e j want) e H op
  | ⟨none, _, _, _, _, _⟩ => none

def upds (e : Env) : List (Nat × AV) → Env
  | [] => e
  | (t, x) :: l => upds (upd e t x) l

/-- The slots that an operation names. -/
def onames (ops : Array Oper) (o : Oper) : List Nat :=
  o.dst.toList ++ opTmps o.op.operands.toList ++ (match o.guard with | some (j, _) => ((ops[j]?).bind (·.dst)).toList | none => [])

/-- The slots that it may turn. -/
def ochanged (tk : Bool) (o : Oper) : List Nat :=
  o.dst.toList ++ (match o.op with
    | .move (.tmp s) => if tk then [s] else []
    | .assign (.tmp s) => [s]
    | .call ⟨.builtin .append, as, _⟩ => opTmps as.toList
    | _ => [])

section
variable {P : Program} {T : Types} {C : Cx} {e e' : Env} {H : Hp}

theorem arg_congr {X : Operand} (h : ∀ t ∈ opTmps [X], e t = e' t) : arg e X = arg e' X := by
  cases X <;> first | rfl | (simp only [arg]; rw [h _ (by simp [opTmps])])

theorem opTmps_cons (X : Operand) (l : List Operand) : opTmps (X :: l) = opTmps [X] ++ opTmps l := by
  cases X <;> rfl

theorem args_congr : ∀ {l : List Operand}, (∀ t ∈ opTmps l, e t = e' t) → args e l = args e' l
  | [], _ => rfl
  | X :: l, h => by
    rw [opTmps_cons] at h
    simp only [args]
    rw [arg_congr (e := e) (e' := e') fun t ht => h t (List.mem_append_left _ ht), args_congr fun t ht => h t (List.mem_append_right _ ht)]

theorem pargs_congr : ∀ {l : List (Nat × Operand)}, (∀ t ∈ opTmps (l.map (·.2)), e t = e' t) → pargs e l = pargs e' l
  | [], _ => rfl
  | (i, X) :: l, h => by
    rw [List.map_cons, opTmps_cons] at h
    simp only [pargs]
    rw [arg_congr (e := e) (e' := e') fun t ht => h t (List.mem_append_left _ ht), pargs_congr fun t ht => h t (List.mem_append_right _ ht)]

theorem qargs_congr : ∀ {l : List (Nat × Operand)}, (∀ t ∈ opTmps (l.map (·.2)), e t = e' t) → qargs e l = qargs e' l
  | [], _ => rfl
  | (i, X) :: l, h => by
    rw [List.map_cons, opTmps_cons] at h
    simp only [qargs]
    rw [arg_congr (e := e) (e' := e') fun t ht => h t (List.mem_append_left _ ht), qargs_congr fun t ht => h t (List.mem_append_right _ ht)]

theorem apure_congr {op : Op} (h : ∀ t ∈ opTmps op.operands.toList, e t = e' t) : apure T op e H = apure T op e' H := by
  have one : ∀ {X : Operand}, X ∈ op.operands.toList → arg e X = arg e' X := fun {X} hX => arg_congr fun t ht => h t (by
    cases X with
    | tmp u => simp only [opTmps, List.filterMap_cons, List.filterMap_nil, List.mem_singleton] at ht; subst ht; exact List.mem_filterMap.2 ⟨_, hX, rfl⟩
    | _ => simp [opTmps] at ht)
  cases op with
  | move X => simp only [apure]; rw [one (by simp [Op.operands])]
  | assign X => simp only [apure]; rw [one (by simp [Op.operands])]
  | pick a b c => simp only [apure]; rw [one (X := a) (by simp [Op.operands]), one (X := b) (by simp [Op.operands]), one (X := c) (by simp [Op.operands])]
  | nilCheck X => simp only [apure]; rw [one (by simp [Op.operands])]
  | binOp op t x y u => simp only [apure]; rw [one (X := x) (by simp [Op.operands]), one (X := y) (by simp [Op.operands])]
  | unOp op t x => simp only [apure]; rw [one (by simp [Op.operands])]
  | convert s t x => simp only [apure]; rw [one (by simp [Op.operands])]
  | extract x i => simp only [apure]; rw [one (by simp [Op.operands])]
  | field t x f => simp only [apure]; rw [one (by simp [Op.operands])]
  | index t x i => simp only [apure]; rw [one (X := x) (by simp [Op.operands]), one (X := i) (by simp [Op.operands])]
  | fieldAddr t x f => simp only [apure]; rw [one (by simp [Op.operands])]
  | indexAddr t x i => simp only [apure]; rw [one (X := x) (by simp [Op.operands]), one (X := i) (by simp [Op.operands])]
  | load t x => simp only [apure]; rw [one (by simp [Op.operands])]
  | build t ps => simp only [apure]; rw [pargs_congr fun t ht => h t (by simpa [Op.operands] using ht)]
  | makeFunc fn fi ca =>
    simp only [apure]
    have hs : ∀ l : List Operand, (∀ X ∈ l, X ∈ (Op.makeFunc fn fi ca).operands.toList) → ∀ t ∈ opTmps l, e t = e' t := fun l hl t ht => by
      obtain ⟨X, hX, hXt⟩ := List.mem_filterMap.1 ht
      exact h t (List.mem_filterMap.2 ⟨X, hl X hX, hXt⟩)
    rw [args_congr (hs fi.toList fun X hX => by simp [Op.operands]; left; simpa using hX), args_congr (hs ca.toList fun X hX => by simp [Op.operands]; right; simpa using hX)]
  | makeInterface t x => simp only [apure]; rw [one (by simp [Op.operands])]
  | slice t x lo hi mx =>
    cases mx with
    | some m => rfl
    | none =>
      simp only [apure]
      rw [one (X := x) (by simp [Op.operands])]
      have h1 : ∀ X, lo = some X → arg e X = arg e' X := fun X hX => one (by simp [Op.operands, hX])
      have h2 : ∀ X, hi = some X → arg e X = arg e' X := fun X hX => one (by simp [Op.operands, hX])
      cases lo with
      | none => cases hi with
        | none => rfl
        | some b => simp only [h2 b rfl]
      | some a => cases hi with
        | none => simp only [h1 a rfl]
        | some b => simp only [h1 a rfl, h2 b rfl]
  | call c =>
    obtain ⟨callee, as, ts⟩ := c
    cases callee with
    | builtin b =>
      cases b with
      | len =>
        simp only [apure]
        split
        · rename_i X t has hts
          rw [one (X := X) (by simp [Op.operands, Call.operands]; have : X ∈ as.toList := by rw [has]; simp
                               simpa using this)]
        · rfl
      | _ => rfl
    | _ => rfl
  | _ => rfl

theorem gdst_congr {ops : Array Oper} {j : Nat} {want : Bool} (h : ∀ t, (ops[j]?).bind (·.dst) = some t → e t = e' t) : gdst ops e j want = gdst ops e' j want := by
  unfold gdst
  split
  · rename_i t ht; rw [h t ht]
  · rfl

theorem aset_congr {cv : Option AV} {ops : Array Oper} {tk : Bool} {o : Oper} (h : ∀ t ∈ onames ops o, e t = e' t) : aset P T cv ops tk e H o = aset P T cv ops tk e' H o := by
  obtain ⟨dst, op, ty, pos, aft, gd⟩ := o
  have hop : ∀ t ∈ opTmps op.operands.toList, e t = e' t := fun t ht => h t (by simp [onames, ht])
  have hap := apure_congr (T := T) (H := H) hop
  have one : ∀ {X : Operand}, X ∈ op.operands.toList → arg e X = arg e' X := fun {X} hX => arg_congr fun t ht => hop t (by
    cases X with
    | tmp u => simp only [opTmps, List.filterMap_cons, List.filterMap_nil, List.mem_singleton] at ht; subst ht; exact List.mem_filterMap.2 ⟨_, hX, rfl⟩
    | _ => simp [opTmps] at ht)
  have tmp : ∀ {s : Nat}, Operand.tmp s ∈ op.operands.toList → e s = e' s := fun {s} hs => hop s (List.mem_filterMap.2 ⟨_, hs, rfl⟩)
  cases dst with
  | none => cases gd <;> rfl
  | some t =>
    cases gd with
    | some jw =>
      obtain ⟨j, want⟩ := jw
      simp only [aset]
      rw [gdst_congr fun t ht => h t (by simp [onames, ht])]
      cases op with
      | call c =>
        obtain ⟨callee, as, ts⟩ := c
        cases callee with
        | value F =>
          simp only [asetG]
          rw [one (X := F) (by simp [Op.operands, Call.operands]), args_congr fun t ht => hop t (by
            obtain ⟨X, hX, hXt⟩ := List.mem_filterMap.1 ht
            exact List.mem_filterMap.2 ⟨X, by simp [Op.operands, Call.operands]; right; simpa using hX, hXt⟩)]
        | _ => simp only [asetG]; rw [hap]
      | _ => simp only [asetG]; rw [hap]
    | none =>
      simp only [aset]
      cases op with
      | move X => cases X with
        | tmp s => simp only [asetOp]; rw [tmp (by simp [Op.operands])]
        | _ => simp only [asetOp]; rw [hap]
      | assign X => cases X with
        | tmp s => simp only [asetOp]; rw [tmp (by simp [Op.operands])]
        | _ => simp only [asetOp]; rw [hap]
      | buildSlice ty n ps => simp only [asetOp]; rw [qargs_congr fun t ht => hop t (by simpa [Op.operands] using ht)]
      | call c =>
        obtain ⟨callee, as, ts⟩ := c
        cases callee with
        | builtin b =>
          cases b with
          | append =>
            simp only [asetOp]
            cases has : appendOf as.toList ts.toList with
            | none => rfl
            | some q =>
              obtain ⟨s, X, t1, t2⟩ := q
              have hl : as.toList = [.tmp s, X] := by
                unfold appendOf at has
                split at has
                · rename_i h1 _; cases has; exact h1
                · cases has
              simp only [setApp]
              rw [tmp (s := s) (by simp [Op.operands, Call.operands]; have : Operand.tmp s ∈ as.toList := by rw [hl]; simp
                                   simpa using this), one (X := X) (by simp [Op.operands, Call.operands]; have : X ∈ as.toList := by rw [hl]; simp
                                                                       simpa using this)]
          | _ => simp only [asetOp]; rw [hap]
        | invoke _ _ => simp only [asetOp]; rw [hap]
        | value F =>
          simp only [asetOp]
          rw [one (X := F) (by simp [Op.operands, Call.operands]), args_congr fun t ht => hop t (by
            obtain ⟨X, hX, hXt⟩ := List.mem_filterMap.1 ht
            exact List.mem_filterMap.2 ⟨X, by simp [Op.operands, Call.operands]; right; simpa using hX, hXt⟩)]
      | _ => simp only [asetOp]; rw [hap]

theorem setMove_keys {s t : Nat} {tk : Bool} {x : AV} {p : Prop} {wr : List (Nat × AV)} (h : setMove s t tk x = some (p, wr)) : ∀ k ∈ wr.map (·.1), k = t ∨ (tk = true ∧ k = s) := by
  unfold setMove at h
  split at h
  · split at h
    · rename_i htk; cases h; intro k hk; simp at hk; rcases hk with rfl | rfl
      · exact .inr ⟨htk, rfl⟩
      · exact .inl rfl
    · cases h; intro k hk; simp at hk; exact .inl hk
  · split at h
    · rename_i htk; cases h; intro k hk; simp at hk; rcases hk with rfl | rfl
      · exact .inr ⟨htk, rfl⟩
      · exact .inl rfl
    · cases h
  · cases h
  · cases h; intro k hk; simp at hk; exact .inl hk

theorem setPure_keys {t : Nat} {r : Option (Prop × AV)} {p : Prop} {wr : List (Nat × AV)} (h : setPure t r = some (p, wr)) : ∀ k ∈ wr.map (·.1), k = t := by
  unfold setPure at h
  split at h
  · cases h; intro k hk; simpa using hk
  · cases h

theorem aset_keys {cv : Option AV} {ops : Array Oper} {tk : Bool} {o : Oper} {p : Prop} {wr : List (Nat × AV)} (h : aset P T cv ops tk e H o = some (p, wr)) : ∀ k ∈ wr.map (·.1), k ∈ ochanged tk o := by
  obtain ⟨dst, op, ty, pos, aft, gd⟩ := o
  cases dst with
  | none => cases gd <;> cases h
  | some t =>
    cases gd with
    | some jw =>
      obtain ⟨j, want⟩ := jw
      simp only [aset] at h
      unfold asetG at h
      split at h
      · unfold setGCall at h
        split at h <;> first | (cases h; intro k hk; simp at hk; simp [ochanged, hk]) | cases h
      · unfold setGuard at h
        split at h <;> first | (cases h; intro k hk; simp at hk; simp [ochanged, hk]) | cases h
    | none =>
      simp only [aset] at h
      have pu : setPure t (apure T op e H) = some (p, wr) → ∀ k ∈ wr.map (·.1), k ∈ ochanged tk ⟨some t, op, ty, pos, aft, none⟩ := fun h k hk => by
        rw [setPure_keys h k hk]; simp [ochanged]
      cases op with
      | move X => cases X with
        | tmp s => intro k hk; rcases setMove_keys h k hk with rfl | ⟨rfl, rfl⟩ <;> simp [ochanged]
        | _ => exact pu h
      | assign X => cases X with
        | tmp s => intro k hk; rcases setMove_keys h k hk with rfl | ⟨_, rfl⟩ <;> simp [ochanged]
        | _ => exact pu h
      | buildSlice ty n ps =>
        simp only [asetOp] at h
        unfold setLit at h
        split at h
        · cases h; intro k hk; simp at hk; simp [ochanged, hk]
        · cases h
      | call c =>
        obtain ⟨callee, as, ts⟩ := c
        cases callee with
        | builtin b =>
          cases b with
          | append =>
            simp only [asetOp] at h
            cases has : appendOf as.toList ts.toList with
            | none => rw [has] at h; cases h
            | some q =>
              obtain ⟨s, X, t1, t2⟩ := q
              have hl : as.toList = [.tmp s, X] := by
                unfold appendOf at has
                split at has
                · rename_i h1 _; cases has; exact h1
                · cases has
              rw [has] at h
              simp only [setApp] at h
              unfold setAppend at h
              split at h
              · cases h; intro k hk; simp at hk
                rcases hk with rfl | rfl
                · simp [ochanged, hl, opTmps]
                · simp [ochanged]
              · cases h
          | _ => exact pu h
        | invoke _ _ => exact pu h
        | value F =>
          simp only [asetOp] at h
          unfold setCall at h
          split at h
          · cases h; intro k hk; simp at hk; simp [ochanged, hk]
          · cases h
      | _ => exact pu h

theorem upds_get : ∀ (wr : List (Nat × AV)) (e : Env) (t : Nat), t ∉ wr.map (·.1) → upds e wr t = e t
  | [], _, _, _ => rfl
  | (s, x) :: wr, e, t, h => by
    simp only [List.map_cons, List.mem_cons, not_or] at h
    simp only [upds]
    rw [upds_get wr _ t h.2]
    simp [upd, h.1]

theorem upd_comm (e : Env) {s t : Nat} (x y : AV) (h : s ≠ t) : upd (upd e s x) t y = upd (upd e t y) s x := by
  funext u
  simp only [upd]
  by_cases h1 : u = t
  · subst h1; rw [if_pos rfl, if_neg (fun h' => h h'.symm), if_pos rfl]
  · rw [if_neg h1, if_neg h1]

theorem upds_upd : ∀ (wr : List (Nat × AV)) (e : Env) (t : Nat) (x : AV), t ∉ wr.map (·.1) → upds (upd e t x) wr = upd (upds e wr) t x
  | [], _, _, _, _ => rfl
  | (s, y) :: wr, e, t, x, h => by
    simp only [List.map_cons, List.mem_cons, not_or] at h
    simp only [upds]
    rw [upd_comm e x y h.1, upds_upd wr _ t x h.2]

theorem upds_comm : ∀ (wr ws : List (Nat × AV)) (e : Env), (∀ k ∈ wr.map (·.1), k ∉ ws.map (·.1)) → upds (upds e wr) ws = upds (upds e ws) wr
  | [], _, _, _ => rfl
  | (s, x) :: wr, ws, e, h => by
    simp only [upds]
    rw [upds_comm wr ws _ fun k hk => h k (by simp at hk ⊢; exact .inr hk), upds_upd ws e s x (h s (by simp))]

/-- Such an operation, in the model. -/
theorem AOp_aset (hT : TOk P T) {ops : Array Oper} {i : Nat} {o : Oper} (hi : ops[i]? = some o) (hd : dstOk C.nt o.dst = true) {cv : Option AV} {tk : Bool} {p : Prop} {wr : List (Nat × AV)} (h : aset P T cv ops tk e H o = some (p, wr)) (hp : p)
    {K : Env → Hp → Prop} {Kx : Exit → Env → Hp → Prop} (hk : K (upds e wr) H) : AOp P C ops i K Kx e H := by
  suffices hs : astep P T C.nt ops tk o K e H ∨ AOp P C ops i K Kx e H by
    rcases hs with hs | hs
    · exact AOp_step hT hi hs
    · exact hs
  obtain ⟨dst, op, ty, pos, aft, gd⟩ := o
  cases dst with
  | none => cases gd <;> cases h
  | some t =>
    cases gd with
    | some jw =>
      obtain ⟨j, want⟩ := jw
      right
      simp only [aset] at h
      unfold asetG at h
      split at h
      · unfold setGCall at h
        split at h
        · rename_i G r b f fi ca c xs hG hF hxs
          cases h
          cases G with
          | false => exact AOp_skip' hi rfl (gdst_guardOf hG) _ hd hk
          | true =>
            obtain ⟨h0, hfr⟩ := hp
            obtain ⟨h1, h2⟩ := h0 rfl
            simp only [Bool.and_eq_true] at h1
            obtain ⟨⟨⟨rfl, rfl⟩, h3⟩, h4⟩ := h1
            refine AOp_callG hi rfl (gdst_guardOf hG) hd rfl hF (fun v hv => ?_) hxs (h2.mono fun y H' hy => by obtain ⟨rfl, rfl⟩ := hy; exact ⟨hfr, hk⟩)
            rcases List.mem_append.1 hv with hv | hv
            · exact List.all_eq_true.1 h3 v hv
            · exact List.all_eq_true.1 h4 v hv
        · cases h
      · unfold setGuard at h
        split at h
        · rename_i G q x hG hq
          cases h
          exact AOp_guard hT hi rfl (gdst_guardOf hG) (fun hh => ⟨hq, hp hh⟩) hd hk
        · rename_i hG hq
          cases h
          exact AOp_skip hi rfl (gdst_guardOf hG) hd hk
        · cases h
    | none =>
      simp only [aset] at h
      simp only [astep]
      have pu : setPure t (apure T op e H) = some (p, wr) → pureK (apure T op e H) (some t) K e H := fun h => by
        unfold setPure at h
        split at h
        · rename_i q x hq; cases h; rw [hq]; exact ⟨hp, hk⟩
        · cases h
      have mv : ∀ {s : Nat} {tk : Bool}, setMove s t tk (e s) = some (p, wr) → moveK (e s) tk s (some t) K e H := fun {s tk} h => by
        generalize hx : e s = x at h
        unfold setMove at h
        split at h
        · split at h
          · rename_i htk; cases h; subst htk; exact hk
          · rename_i htk; cases h; have : tk = false := by simpa using htk
            subst this; exact hk
        · split at h
          · rename_i htk; cases h; subst htk; exact hk
          · cases h
        · cases h
        · rename_i h1 h2 h3
          cases h
          cases x with
          | lst m xs =>
            cases m with
            | zero => cases tk <;> exact hk
            | succ m => cases m with
              | zero => exact absurd rfl (h1 _)
              | succ m => cases m with
                | zero => exact absurd rfl (h2 _)
                | succ m => exact absurd rfl (h3 _ _)
          | may b y => cases tk <;> exact ⟨hp, hk⟩
          | _ => cases tk <;> exact hk
      cases op with
      | move X => cases X with
        | tmp s => exact .inl ⟨hd, mv h⟩
        | _ => exact .inl ⟨hd, pu h⟩
      | assign X => cases X with
        | tmp s => exact .inl ⟨hd, mv h⟩
        | _ => exact .inl ⟨hd, pu h⟩
      | buildSlice ty n ps =>
        left
        refine ⟨hd, ?_⟩
        simp only [asetOp] at h
        simp only [abare]
        unfold setLit at h
        split at h
        · rename_i sz bz et z b qs ht hq
          cases h
          rw [ht, hq]
          obtain ⟨ti, h1, h2, h3⟩ := hp
          exact ⟨ti, h1, h2, h3, hk⟩
        · cases h
      | call c =>
        obtain ⟨callee, as, ts⟩ := c
        cases callee with
        | builtin b =>
          cases b with
          | append =>
            left
            refine ⟨hd, ?_⟩
            simp only [asetOp] at h
            simp only [abare]
            cases has : appendOf as.toList ts.toList with
            | none => rw [has] at h; cases h
            | some q =>
              obtain ⟨s, X, t1, t2⟩ := q
              have hl : as.toList = [.tmp s, X] ∧ ts.toList = [t1, t2] := by
                unfold appendOf at has
                split at has
                · rename_i h1 h2; cases has; exact ⟨h1, h2⟩
                · cases has
              rw [has] at h
              rw [hl.1, hl.2]
              simp only [setApp] at h
              simp only [appendA]
              unfold setAppend at h
              split at h
              · rename_i _ _ _ _ _ _ _ _ m xs b m' ys ht1 ht2 hx hX
                cases h
                rw [ht1, ht2, hx, hX]
                obtain ⟨ti, k1, k2, k3, k4, k5, k6⟩ := hp
                exact ⟨ti, k1, k2, k3, k4, k5, k6, hk⟩
              · cases h
          | _ => exact .inl ⟨hd, pu h⟩
        | invoke _ _ => exact .inl ⟨hd, pu h⟩
        | value F =>
          right
          refine AOp_enterK hi rfl hd rfl ?_
          simp only [asetOp] at h
          unfold setCall at h
          split at h
          · rename_i r b f fi ca c xs hF hxs
            cases h
            rw [hF, hxs]
            exact ⟨hp.1, hp.2 _ hk⟩
          · cases h
      | build t ps => exact .inr (AOp_pureK hT hi rfl hd (pu h))
      | load t A => exact .inr (AOp_pureK hT hi rfl hd (pu h))
      | indexAddr t X Y => exact .inr (AOp_pureK hT hi rfl hd (pu h))
      | slice t X lo hi' mx => exact .inr (AOp_pureK hT hi rfl hd (pu h))
      | convert s t X => exact .inr (AOp_pureK hT hi rfl hd (pu h))
      | alloc E => cases h
      | box E X => cases h
      | binOp op t X Y u =>
        refine .inl ⟨hd, ?_⟩
        have hpu := pu h
        simp only [abare]
        generalize hq : (bif isNil Y then nilEq op (T t) (arg e X) (arg e Y) else none) = q
        cases q with
        | none => exact hpu
        | some q =>
          obtain ⟨b, want, xs⟩ := q
          exfalso
          cases hy : isNil Y with
          | false => rw [hy] at hq; cases hq
          | true =>
            rw [hy] at hq
            obtain ⟨sz, bz, et, z, m, ht, hX, hop⟩ := nilEq_inv hq
            obtain ⟨p', x', h1, _⟩ := pureK_inv hpu
            simp only [apure, hX] at h1
            split at h1
            · rename_i hh _
              cases hh
              simp [abin] at h1
            · cases h1
      | _ => exact .inl ⟨hd, pu h⟩

/-- Does an edge bind, and is it this one's? -/
def waits (o : Oper) (i : Nat) : Bool := o.after.toList.any fun ed => Region.binds .any ed && ed.on == i

/-- Must j wait for i, at once or through others? -/
def behind (ops : Array Oper) (i : Nat) : Nat → List Bool
  | 0 => []
  | n + 1 =>
    let l := behind ops i n
    l ++ [match ops[n]? with
      | some o => waits o i || (List.range n).any fun k => l.getD k false && waits o k
      | none => false]

def disj (l m : List Nat) : Bool := l.all fun t => !m.contains t

/-- May two that do not wait for each other be carried out in either order? -/
def apartOk (ops : Array Oper) (q tk : List Nat) (i j : Nat) : Bool :=
  match ops[i]?, ops[j]? with
  | some x, some y => q.contains i && q.contains j && disj (ochanged (tk.contains i) x) (onames ops y) && disj (ochanged (tk.contains j) y) (onames ops x)
  | _, _ => false

/-- Each waits for ones ahead of it alone; those that don't wait for each other are apart. q: the operations that leave the blocks as they are. -/
def drawOk (ops : Array Oper) (q tk : List Nat) : Bool :=
  (List.range ops.size).all fun j => (match ops[j]? with | some o => o.after.toList.all fun ed => !Region.binds .any ed || decide (ed.on < j) | none => false) &&
    (List.range j).all fun i => (behind ops i ops.size).getD j false || apartOk ops q tk i j

def DStep (P : Program) (T : Types) (C : Cx) (ops : Array Oper) (q tk : List Nat) (cv : Nat → Option AV) (i : Nat) (e : Env) (H : Hp) (K : Env → Hp → Prop) : Prop :=
  match ops[i]? with
  | some o => if q.contains i then ∃ p wr, aset P T (cv i) ops (tk.contains i) e H o = some (p, wr) ∧ p ∧ dstOk C.nt o.dst = true ∧ K (upds e wr) H
    else ∀ Kx : Exit → Env → Hp → Prop, AOp P C ops i K Kx e H
  | none => False

/-- All orders. -/
def DAny (P : Program) (T : Types) (C : Cx) (ops : Array Oper) (q tk : List Nat) (cv : Nat → Option AV) (Kx : Env → Hp → Prop) : Nat → Array Bool → Env → Hp → Prop
  | 0, l, e, H => Region.ready .any ops l = [] ∧ Kx e H
  | f + 1, l, e, H => (Region.ready .any ops l = [] → Kx e H) ∧ ∀ i ∈ Region.ready .any ops l, DStep P T C ops q tk cv i e H (DAny P T C ops q tk cv Kx f (l.setIfInBounds i true))

theorem DStep_sound (hT : TOk P T) {ops : Array Oper} {q tk : List Nat} {cv : Nat → Option AV} {i : Nat} {K : Env → Hp → Prop} {Kx : Exit → Env → Hp → Prop} (h : DStep P T C ops q tk cv i e H K) : AOp P C ops i K Kx e H := by
  unfold DStep at h
  split at h
  · rename_i o ho
    split at h
    · obtain ⟨p, wr, h1, h2, h3, h4⟩ := h
      exact AOp_aset hT ho h3 h1 h2 h4
    · exact h Kx
  · exact h.elim

theorem DAny_sound (hT : TOk P T) {ops : Array Oper} {q tk : List Nat} {cv : Nat → Option AV} {Q : Exit → Env → Hp → Prop} : ∀ (f : Nat) (l : Array Bool) (e : Env) (H : Hp), DAny P T C ops q tk cv (Q .normal) f l e H →
    ∀ g a w, SRel g C e H a w → ∀ Q' : Exit → Act → World → Prop, (∀ ex g' a' w' e' H', Guar C.d H H' g w g' w' → SRel g' C e' H' a' w' → Q ex e' H' → Q' ex a' w') → wpAny P .any ops Q' f l a w
  | 0, l, e, H, h, g, a, w, hr, Q', hQ => ⟨h.1, hQ .normal g a w e H .refl hr h.2⟩
  | f + 1, l, e, H, h, g, a, w, hr, Q', hQ => by
    refine ⟨fun hn => hQ .normal g a w e H .refl hr (h.1 hn), fun i hi => ?_⟩
    exact DStep_sound (Kx := Q) hT (h.2 i hi) g a w hr _ Q' (fun g' a' w' e' H' k1 k2 k3 => DAny_sound hT f _ e' H' k3 g' a' w' k2 Q' fun ex g2 a2 w2 e2 H2 m1 m2 m3 => hQ ex g2 a2 w2 e2 H2 (k1.trans m1) m2 m3) hQ

/-- What is listed has all listed that it waits for. -/
def Closed (ops : Array Oper) (l : Array Bool) : Prop := ∀ k o, l.getD k false = true → ops[k]? = some o → ∀ ed ∈ o.after, Region.binds .any ed = true → l.getD ed.on false = true

theorem behind_length (ops : Array Oper) (i : Nat) : ∀ n, (behind ops i n).length = n
  | 0 => rfl
  | n + 1 => by simp only [behind, List.length_append, behind_length ops i n, List.length_cons, List.length_nil]

theorem behind_prefix (ops : Array Oper) (i : Nat) {n j : Nat} (hj : j < n) : ∀ {m : Nat}, n ≤ m → (behind ops i m).getD j false = (behind ops i n).getD j false
  | 0, h => by omega
  | m + 1, h => by
    rcases Nat.lt_or_ge m n with h' | h'
    · have : n = m + 1 := by omega
      subst this; rfl
    · rw [← behind_prefix ops i hj h']
      simp only [behind, List.getD]
      rw [List.getElem?_append_left (by rw [behind_length]; omega)]

theorem behind_step {ops : Array Oper} {i n j : Nat} (hj : j < n) (h : (behind ops i n).getD j false = true) : ∃ o, ops[j]? = some o ∧ (waits o i = true ∨ ∃ k, k < j ∧ (behind ops i n).getD k false = true ∧ waits o k = true) := by
  rw [behind_prefix ops i (n := j + 1) (by omega) (by omega)] at h
  simp only [behind, List.getD] at h
  rw [List.getElem?_append_right (by rw [behind_length]; omega), behind_length, Nat.sub_self] at h
  simp only [List.getElem?_cons_zero, Option.getD_some] at h
  split at h
  · rename_i o ho
    refine ⟨o, ho, ?_⟩
    simp only [Bool.or_eq_true, List.any_eq_true, List.mem_range, Bool.and_eq_true] at h
    rcases h with h | ⟨k, hk, h1, h2⟩
    · exact .inl h
    · refine .inr ⟨k, hk, ?_, h2⟩
      rw [behind_prefix ops i (n := j) hk (by omega)]
      exact h1
  · cases h

theorem waits_edge {o : Oper} {i : Nat} (h : waits o i = true) : ∃ ed ∈ o.after, Region.binds .any ed = true ∧ ed.on = i := by
  simp only [waits, List.any_eq_true, Bool.and_eq_true, beq_iff_eq] at h
  obtain ⟨ed, h1, h2, h3⟩ := h
  exact ⟨ed, by simpa using h1, h2, h3⟩

theorem not_behind {ops : Array Oper} {l : Array Bool} (hc : Closed ops l) {i n : Nat} (hi : l.getD i false = false) : ∀ j, j < n → (∀ o, ops[j]? = some o → ∀ ed ∈ o.after, Region.binds .any ed = true → l.getD ed.on false = true) → (behind ops i n).getD j false = false := by
  intro j
  induction j using Nat.strongRecOn with
  | _ j ih =>
    intro hj hr
    cases hb : (behind ops i n).getD j false with
    | false => rfl
    | true =>
      obtain ⟨o, ho, h | ⟨k, hk, h1, h2⟩⟩ := behind_step hj hb
      · obtain ⟨ed, e1, e2, e3⟩ := waits_edge h
        have := hr o ho ed e1 e2
        rw [e3, hi] at this; cases this
      · obtain ⟨ed, e1, e2, e3⟩ := waits_edge h2
        have hl := hr o ho ed e1 e2
        rw [e3] at hl
        have := ih k hk (by omega) fun o' ho' => hc k o' hl ho'
        rw [h1] at this; cases this

theorem getD_lt {l : Array Bool} {k : Nat} (h : l.getD k false = true) : k < l.size := by
  rcases Nat.lt_or_ge k l.size with h' | h'
  · exact h'
  · rw [Array.getD_eq_getD_getElem?, Array.getElem?_eq_none h'] at h; cases h

theorem ready_apart {ops : Array Oper} {q tk : List Nat} (hok : drawOk ops q tk = true) {l : Array Bool} (hc : Closed ops l) {i : Nat} (hlt : ∀ k, k < i → l.getD k false = true) (hi : l.getD i false = false) {j : Nat} (hj : j ∈ Region.ready .any ops l) (hne : j ≠ i) :
    i < j ∧ apartOk ops q tk i j = true := by
  obtain ⟨hjun, o, ho, hall⟩ := mem_ready.1 hj
  have hjs : j < ops.size := (Array.getElem?_eq_some_iff.1 ho).1
  have hij : i < j := by
    rcases Nat.lt_trichotomy j i with h | h | h
    · have := hlt j h
      rw [Array.getD_eq_getD_getElem?] at this hjun
      cases hx : l[j]? with
      | none => rw [hx] at this; cases this
      | some b => rw [hx] at this hjun; simp at this hjun; rw [this] at hjun; cases hjun
    · exact absurd h hne
    · exact h
  have hnb := not_behind hc (n := ops.size) hi j hjs (fun o' ho' ed he hb => by rw [ho] at ho'; cases ho'; exact hall ed he hb)
  simp only [drawOk, List.all_eq_true, List.mem_range, Bool.and_eq_true] at hok
  have := (hok j hjs).2 i hij
  rw [hnb] at this
  exact ⟨hij, by simpa using this⟩

theorem closed_set {ops : Array Oper} {l : Array Bool} (hc : Closed ops l) {j : Nat} (hj : j ∈ Region.ready .any ops l) : Closed ops (l.setIfInBounds j true) := by
  intro k o hk ho ed he hb
  obtain ⟨_, o', ho', hall⟩ := mem_ready.1 hj
  by_cases hkj : k = j
  · subst hkj
    rw [ho] at ho'; cases ho'
    exact getD_set_true (hall ed he hb)
  · rw [getD_set_ne false (fun h => hkj h.symm)] at hk
    exact getD_set_true (hc k o hk ho ed he hb)

theorem disj_spec {l m : List Nat} (h : disj l m = true) {t : Nat} (ht : t ∈ l) : t ∉ m := by
  simp only [disj, List.all_eq_true, Bool.not_eq_true', List.contains_eq_mem, decide_eq_false_iff_not] at h
  exact h t ht

theorem apartOk_spec {ops : Array Oper} {q tk : List Nat} {i j : Nat} {x y : Oper} (h : apartOk ops q tk i j = true) (hx : ops[i]? = some x) (hy : ops[j]? = some y) :
    q.contains i = true ∧ q.contains j = true ∧ disj (ochanged (tk.contains i) x) (onames ops y) = true ∧ disj (ochanged (tk.contains j) y) (onames ops x) = true := by
  unfold apartOk at h
  rw [hx, hy] at h
  simp only [Bool.and_eq_true] at h
  exact ⟨h.1.1.1, h.1.1.2, h.1.2, h.2⟩

theorem ochanged_sub {ops : Array Oper} {tk : Bool} {o : Oper} : ∀ t ∈ ochanged tk o, t ∈ onames ops o := by
  obtain ⟨dst, op, ty, pos, aft, gd⟩ := o
  intro t ht
  simp only [ochanged, onames, List.mem_append] at ht ⊢
  rcases ht with ht | ht
  · exact .inl (.inl ht)
  · refine .inl (.inr ?_)
    split at ht
    · rename_i s
      split at ht
      · simp at ht; subst ht; simp [Op.operands, opTmps]
      · cases ht
    · rename_i s; simp at ht; subst ht; simp [Op.operands, opTmps]
    · rename_i as ts
      simp only [Op.operands, Call.operands]
      simpa using ht
    · cases ht

theorem DAny_peel {ops : Array Oper} {q tk : List Nat} {cv : Nat → Option AV} {Kx : Env → Hp → Prop} (hok : drawOk ops q tk = true) {i : Nat} {o : Oper} (ho : ops[i]? = some o) (hq : q.contains i = true) (hd : dstOk C.nt o.dst = true) :
    ∀ (f : Nat) (l : Array Bool) (e : Env) {p : Prop} {wr : List (Nat × AV)}, Closed ops l → (∀ k, k < i → l.getD k false = true) → l.getD i false = false → i ∈ Region.ready .any ops l →
      aset P T (cv i) ops (tk.contains i) e H o = some (p, wr) → p → DAny P T C ops q tk cv Kx f (l.setIfInBounds i true) (upds e wr) H → DAny P T C ops q tk cv Kx (f + 1) l e H
  | 0, l, e, p, wr, hc, hlt, hi, hr, ha, hp, h => by
    refine ⟨fun hn => (by rw [hn] at hr; cases hr), fun j hj => ?_⟩
    by_cases hji : j = i
    · subst hji
      unfold DStep
      rw [ho]
      simp only [hq, if_true]
      exact ⟨p, wr, ha, hp, hd, h⟩
    · have := ready_mono hj hji
      rw [h.1] at this; cases this
  | f + 1, l, e, p, wr, hc, hlt, hi, hr, ha, hp, h => by
    refine ⟨fun hn => (by rw [hn] at hr; cases hr), fun j hj => ?_⟩
    by_cases hji : j = i
    · subst hji
      unfold DStep
      rw [ho]
      simp only [hq, if_true]
      exact ⟨p, wr, ha, hp, hd, h⟩
    · obtain ⟨hij, hap⟩ := ready_apart hok hc hlt hi hj hji
      have hstep := h.2 j (ready_mono hj hji)
      obtain ⟨hjun, oj, hoj, hall⟩ := mem_ready.1 hj
      obtain ⟨a1, a2, a3, a4⟩ := apartOk_spec hap ho hoj
      unfold DStep at hstep ⊢
      rw [hoj] at hstep ⊢
      simp only [a2, if_true] at hstep ⊢
      obtain ⟨pj, wrj, b1, b2, b3, b4⟩ := hstep
      have ki := aset_keys ha
      have b1' : aset P T (cv j) ops (tk.contains j) e H oj = some (pj, wrj) := by
        rw [← b1]
        refine aset_congr fun t ht => ?_
        rw [upds_get]
        intro hk
        exact disj_spec a3 (ki t hk) ht
      have kj := aset_keys b1'
      refine ⟨pj, wrj, b1', b2, b3, ?_⟩
      refine DAny_peel hok ho hq hd f (l.setIfInBounds j true) (upds e wrj) (closed_set hc hj) (fun k hk => getD_set_true (hlt k hk)) (by rw [getD_set_ne false hji]; exact hi) (ready_mono hr (fun h => hji h.symm)) ?_ hp ?_ (p := p) (wr := wr)
      · rw [← ha]
        refine aset_congr fun t ht => ?_
        rw [upds_get]
        intro hk
        exact disj_spec a4 (kj t hk) ht
      · rw [Array.setIfInBounds_comm _ _ hji, upds_comm wrj wr e fun k hk hk2 => disj_spec a4 (kj k hk) (ochanged_sub _ (ki k hk2))]
        exact b4

def asetK (nt : Nat) (dst : Option Tmp) : Option (Prop × List (Nat × AV)) → (Env → Hp → Prop) → Env → Hp → Prop
  | some (p, wr), K, e, H => p ∧ dstOk nt dst = true ∧ K (upds e wr) H
  | none, _, _, _ => False

/-- One order. -/
def dreg (P : Program) (T : Types) (nt : Nat) (ops : Array Oper) (q tk : List Nat) (cv : Nat → Option AV) : Nat → List Oper → (Env → Hp → Prop) → Env → Hp → Prop
  | _, [], K, e, H => K e H
  | i, o :: os, K, e, H => bif q.contains i then asetK nt o.dst (aset P T (cv i) ops (tk.contains i) e H o) (dreg P T nt ops q tk cv (i + 1) os K) e H
    else astep P T nt ops (tk.contains i) o (dreg P T nt ops q tk cv (i + 1) os K) e H

theorem AOp.mono {ops : Array Oper} {i : Nat} {K K' : Env → Hp → Prop} {Kx : Exit → Env → Hp → Prop} (h : AOp P C ops i K Kx e H) (hk : ∀ e H, K e H → K' e H) : AOp P C ops i K' Kx e H :=
  fun g a w hr NX Q hNX hQ => h g a w hr NX Q (fun g' a' w' e' H' k1 k2 k3 => hNX g' a' w' e' H' k1 k2 (hk _ _ k3)) hQ

theorem DAny_dreg (hT : TOk P T) {ops : Array Oper} {q tk : List Nat} {cv : Nat → Option AV} {Kx : Env → Hp → Prop} (hok : drawOk ops q tk = true) : ∀ (os : List Oper) (i : Nat) (l : Array Bool) {e : Env} {H : Hp}, ops.toList.drop i = os → l.size = ops.size →
    (∀ k, k < ops.size → l.getD k false = decide (k < i)) → dreg P T C.nt ops q tk cv i os Kx e H → DAny P T C ops q tk cv Kx os.length l e H
  | [], i, l, e, H, hdr, hsz, hl, h => by
    simp only [dreg] at h
    refine ⟨?_, h⟩
    have hin : ops.size ≤ i := by
      have := congrArg List.length hdr
      simp at this; omega
    cases hrd : Region.ready .any ops l with
    | nil => rfl
    | cons j js =>
      obtain ⟨hjun, o, ho, _⟩ := mem_ready.1 (show j ∈ Region.ready .any ops l by rw [hrd]; simp)
      have hjs := (Array.getElem?_eq_some_iff.1 ho).1
      have := hl j hjs
      rw [Array.getD_eq_getD_getElem?, Array.getElem?_eq_getElem (by omega)] at this hjun
      simp at this hjun
      rw [hjun] at this
      simp at this; omega
  | o :: os, i, l, e, H, hdr, hsz, hl, h => by
    have ho : ops[i]? = some o := by
      have : (ops.toList.drop i)[0]? = some o := by rw [hdr]; rfl
      rw [List.getElem?_drop] at this
      simpa using this
    have hdr2 : ops.toList.drop (i + 1) = os := by rw [← List.drop_drop, hdr]; rfl
    have his := (Array.getElem?_eq_some_iff.1 ho).1
    have hedge : ∀ j o', ops[j]? = some o' → ∀ ed ∈ o'.after, Region.binds .any ed = true → ed.on < j := by
      intro j o' ho' ed he hb
      have hjs := (Array.getElem?_eq_some_iff.1 ho').1
      simp only [drawOk, List.all_eq_true, List.mem_range, Bool.and_eq_true] at hok
      have := (hok j hjs).1
      rw [ho'] at this
      have := List.all_eq_true.1 this ed (by simpa using he)
      simpa [hb] using this
    have hlt : ∀ k, k < i → l.getD k false = true := fun k hk => by rw [hl k (by omega)]; simpa using hk
    have hi : l.getD i false = false := by rw [hl i his]; simp
    have hc : Closed ops l := by
      intro k o' hk ho' ed he hb
      have hks := (Array.getElem?_eq_some_iff.1 ho').1
      rw [hl k hks] at hk
      simp only [decide_eq_true_eq] at hk
      exact hlt _ (by have := hedge k o' ho' ed he hb; omega)
    have hr : i ∈ Region.ready .any ops l := mem_ready.2 ⟨by
      rw [Array.getD_eq_getD_getElem?, Array.getElem?_eq_getElem (by omega)] at hi ⊢
      simpa using hi, o, ho, fun ed he hb => hlt _ (hedge i o ho ed he hb)⟩
    have hl2 : ∀ k, k < ops.size → (l.setIfInBounds i true).getD k false = decide (k < i + 1) := fun k hk => by
      by_cases hki : i = k
      · subst hki
        rw [Array.getD_eq_getD_getElem?, Array.getElem?_setIfInBounds_self_of_lt (by omega)]
        simp
      · rw [getD_set_ne false hki, hl k hk]
        congr 1
        apply propext
        omega
    simp only [dreg] at h
    cases hq : q.contains i with
    | true =>
      rw [hq] at h
      simp only [cond_true] at h
      unfold asetK at h
      split at h
      · rename_i p wr ha
        obtain ⟨hp, hd, hk⟩ := h
        exact DAny_peel hok ho hq hd os.length l _ hc hlt hi hr ha hp (DAny_dreg hT hok os (i + 1) _ hdr2 (by simpa using hsz) hl2 hk)
      · exact h.elim
    | false =>
      rw [hq] at h
      simp only [cond_false] at h
      refine ⟨fun hn => (by rw [hn] at hr; cases hr), fun j hj => ?_⟩
      by_cases hji : j = i
      · subst hji
        unfold DStep
        rw [ho]
        simp only [hq, Bool.false_eq_true, if_false]
        exact fun Kx' => (AOp_step hT ho h).mono fun e' H' hk => DAny_dreg hT hok os (j + 1) _ hdr2 (by simpa using hsz) hl2 hk
      · obtain ⟨hij, hap⟩ := ready_apart hok hc hlt hi hj hji
        obtain ⟨hjun, oj, hoj, hall⟩ := mem_ready.1 hj
        have := (apartOk_spec hap ho hoj).1
        rw [hq] at this; cases this

/-- A region whose order is open. -/
theorem AWp_draw (hT : TOk P T) (hm : P.follows .mixedOrders = true) {id : Nat} {ops : Array Oper} {q tk : List Nat} {cv : Nat → Option AV} {Q : Exit → Env → Hp → Prop} (hok : drawOk ops q tk = true)
    (h : dreg P T C.nt ops q tk cv 0 ops.toList (Q .normal) e H) : AWp P C (.region id ops true) Q e H := by
  intro g a w hr
  refine wp_region_any hm ?_
  have hkp : Keep g w g { w with drawn := w.drawn + 1 } := ⟨Nat.le_refl _, fun _ => Nat.le_refl _, fun _ _ _ => rfl, ⟨rfl, rfl, rfl⟩⟩
  have hs : ∀ o, SameOf o g w g { w with drawn := w.drawn + 1 } := fun _ _ h => ⟨h, rfl, rfl⟩
  have hr2 : SRel g C e H a { w with drawn := w.drawn + 1 } := ⟨⟨hr.inv.fresh, hr.inv.cells⟩, fun B b hb => ⟨(hr.heap B b hb).1, (hr.heap B b hb).2.keep hkp (hs _) (hr.heap B b hb).1 fun _ => hs _⟩, hr.defers, hr.size,
    fun t ht => let ⟨v, h1, h2⟩ := hr.slots t ht; ⟨v, h1, h2.keep hkp (hs _)⟩⟩
  have hg : Guar C.d H H g w g { w with drawn := w.drawn + 1 } := ⟨hkp, fun _ _ h hf => ⟨h, hf, rfl, rfl⟩⟩
  have hd := DAny_dreg (C := C) (Kx := Q .normal) hT hok ops.toList 0 (Array.replicate ops.size false) rfl (by simp) (fun k hk => by
    rw [Array.getD_eq_getD_getElem?, Array.getElem?_replicate]; simp [hk]) h
  have := DAny_sound hT _ _ e H hd g a _ hr2 (fun ex a' w' => ∃ g' e' H', Guar C.d H H' g w g' w' ∧ SRel g' C e' H' a' w' ∧ Q ex e' H') fun ex g' a' w' e' H' k1 k2 k3 => ⟨g', e', H', hg.trans k1, k2, k3⟩
  simpa using this

end
end Go.Ab

/- Ab.Par: a region whose order is open, with calls and loads of tokens: each operation has an effect that hangs on few slots and blocks. -/
namespace Go.Ab

def hsets (H : Hp) : List (Nat × AB) → Hp
  | [] => H
  | (B, b) :: l => hsets (hset H B b) l

theorem hsets_get : ∀ (hw : List (Nat × AB)) (H : Hp) (D : Nat), D ∉ hw.map (·.1) → hsets H hw D = H D
  | [], _, _, _ => rfl
  | (B, b) :: hw, H, D, h => by
    simp only [List.map_cons, List.mem_cons, not_or] at h
    simp only [hsets]
    rw [hsets_get hw _ D h.2]
    simp [hset, h.1]

theorem hset_comm (H : Hp) {B D : Nat} (x y : AB) (h : B ≠ D) : hset (hset H B x) D y = hset (hset H D y) B x := by
  funext u
  simp only [hset]
  by_cases h1 : u = D
  · subst h1; rw [if_pos rfl, if_neg (fun h' => h h'.symm), if_pos rfl]
  · rw [if_neg h1, if_neg h1]

theorem hsets_hset : ∀ (hw : List (Nat × AB)) (H : Hp) (D : Nat) (x : AB), D ∉ hw.map (·.1) → hsets (hset H D x) hw = hset (hsets H hw) D x
  | [], _, _, _, _ => rfl
  | (B, y) :: hw, H, D, x, h => by
    simp only [List.map_cons, List.mem_cons, not_or] at h
    simp only [hsets]
    rw [hset_comm H x y h.1, hsets_hset hw _ D x h.2]

theorem hsets_comm : ∀ (hw hv : List (Nat × AB)) (H : Hp), (∀ D ∈ hw.map (·.1), D ∉ hv.map (·.1)) → hsets (hsets H hw) hv = hsets (hsets H hv) hw
  | [], _, _, _ => rfl
  | (B, x) :: hw, hv, H, h => by
    simp only [hsets]
    rw [hsets_comm hw hv _ fun D hD => h D (by simp at hD ⊢; exact .inr hD), hsets_hset hv H B x (h B (by simp))]

section
variable {P : Program} {T : Types} {C : Cx} {e : Env} {H : Hp}

/-- What an operation does, at each state that agrees with this one on what it names and on some blocks. -/
def Stp (P : Program) (C : Cx) (ops : Array Oper) (i : Nat) (wr : List (Nat × AV)) (hw : List (Nat × AB)) (F : List Nat) (e : Env) (H : Hp) : Prop :=
  ∀ (e2 : Env) (H2 : Hp), (∀ o, ops[i]? = some o → ∀ t ∈ onames ops o, e2 t = e t) → (∀ D ∈ F, H2 D = H D) →
    ∀ (K : Env → Hp → Prop) (Kx : Exit → Env → Hp → Prop), K (upds e2 wr) (hsets H2 hw) → AOp P C ops i K Kx e2 H2

/-- One step: its effect, and what is behind it. F: the blocks it reads, W: those it writes, c: the slots it turns. -/
def PStep (P : Program) (C : Cx) (ops : Array Oper) (i : Nat) (c F W : List Nat) (K : Env → Hp → Prop) (e : Env) (H : Hp) : Prop :=
  ∃ wr hw, (∀ k ∈ wr.map (·.1), k ∈ c) ∧ (∀ D ∈ hw.map (·.1), D ∈ W) ∧ Stp P C ops i wr hw F e H ∧ K (upds e wr) (hsets H hw)

/-- All orders. -/
def PAny (P : Program) (C : Cx) (ops : Array Oper) (c F W : Nat → List Nat) (Kx : Env → Hp → Prop) : Nat → Array Bool → Env → Hp → Prop
  | 0, l, e, H => Region.ready .any ops l = [] ∧ Kx e H
  | f + 1, l, e, H => (Region.ready .any ops l = [] → Kx e H) ∧ ∀ i ∈ Region.ready .any ops l, PStep P C ops i (c i) (F i) (W i) (PAny P C ops c F W Kx f (l.setIfInBounds i true)) e H

theorem PAny_sound {ops : Array Oper} {c F W : Nat → List Nat} {Q : Exit → Env → Hp → Prop} : ∀ (f : Nat) (l : Array Bool) (e : Env) (H : Hp), PAny P C ops c F W (Q .normal) f l e H →
    ∀ g a w, SRel g C e H a w → ∀ Q' : Exit → Act → World → Prop, (∀ ex g' a' w' e' H', Guar C.d H H' g w g' w' → SRel g' C e' H' a' w' → Q ex e' H' → Q' ex a' w') → wpAny P .any ops Q' f l a w
  | 0, l, e, H, h, g, a, w, hr, Q', hQ => ⟨h.1, hQ .normal g a w e H .refl hr h.2⟩
  | f + 1, l, e, H, h, g, a, w, hr, Q', hQ => by
    refine ⟨fun hn => hQ .normal g a w e H .refl hr (h.1 hn), fun i hi => ?_⟩
    obtain ⟨wr, hw, _, _, hs, hk⟩ := h.2 i hi
    exact hs e H (fun _ _ _ _ => rfl) (fun _ _ => rfl) _ Q hk g a w hr _ Q' (fun g' a' w' e' H' k1 k2 k3 => PAny_sound f _ e' H' k3 g' a' w' k2 Q' fun ex g2 a2 w2 e2 H2 m1 m2 m3 => hQ ex g2 a2 w2 e2 H2 (k1.trans m1) m2 m3) hQ

/-- Those that do not wait for each other turn no slot that the other names, and no block that it reads or turns. -/
structure ParOk (ops : Array Oper) (c F W : Nat → List Nat) : Prop where
  edge : ∀ j o, ops[j]? = some o → ∀ ed ∈ o.after, Region.binds .any ed = true → ed.on < j
  apart : ∀ i j x y, i < j → ops[i]? = some x → ops[j]? = some y → (behind ops i ops.size).getD j false = false →
    (∀ t ∈ c i, t ∉ onames ops y) ∧ (∀ t ∈ c j, t ∉ onames ops x) ∧ (∀ t ∈ c i, t ∉ c j) ∧ (∀ D ∈ W i, D ∉ F j ∧ D ∉ W j) ∧ (∀ D ∈ W j, D ∉ F i)

theorem ready_apart' {ops : Array Oper} {l : Array Bool} (hc : Closed ops l) {i : Nat} (hlt : ∀ k, k < i → l.getD k false = true) (hi : l.getD i false = false) {j : Nat} (hj : j ∈ Region.ready .any ops l) (hne : j ≠ i) :
    i < j ∧ (behind ops i ops.size).getD j false = false := by
  obtain ⟨hjun, o, ho, hall⟩ := mem_ready.1 hj
  have hjs : j < ops.size := (Array.getElem?_eq_some_iff.1 ho).1
  have hij : i < j := by
    rcases Nat.lt_trichotomy j i with h | h | h
    · have := hlt j h
      rw [Array.getD_eq_getD_getElem?] at this hjun
      cases hx : l[j]? with
      | none => rw [hx] at this; cases this
      | some b => rw [hx] at this hjun; simp at this hjun; rw [this] at hjun; cases hjun
    · exact absurd h hne
    · exact h
  exact ⟨hij, not_behind hc (n := ops.size) hi j hjs (fun o' ho' ed he hb => by rw [ho] at ho'; cases ho'; exact hall ed he hb)⟩

theorem PAny_peel {ops : Array Oper} {c F W : Nat → List Nat} {Kx : Env → Hp → Prop} (hok : ParOk ops c F W) {i : Nat} {o : Oper} (ho : ops[i]? = some o) :
    ∀ (f : Nat) (l : Array Bool) (e : Env) (H : Hp), Closed ops l → (∀ k, k < i → l.getD k false = true) → l.getD i false = false → i ∈ Region.ready .any ops l →
      PStep P C ops i (c i) (F i) (W i) (PAny P C ops c F W Kx f (l.setIfInBounds i true)) e H → PAny P C ops c F W Kx (f + 1) l e H
  | 0, l, e, H, hc, hlt, hi, hr, h => by
    refine ⟨fun hn => (by rw [hn] at hr; cases hr), fun j hj => ?_⟩
    by_cases hji : j = i
    · subst hji; exact h
    · obtain ⟨wr, hw, _, _, _, hk⟩ := h
      have := ready_mono hj hji
      rw [hk.1] at this; cases this
  | f + 1, l, e, H, hc, hlt, hi, hr, h => by
    refine ⟨fun hn => (by rw [hn] at hr; cases hr), fun j hj => ?_⟩
    by_cases hji : j = i
    · subst hji; exact h
    · obtain ⟨hij, hnb⟩ := ready_apart' hc hlt hi hj hji
      obtain ⟨wr, hw, h1, h2, h3, h4⟩ := h
      obtain ⟨wrj, hwj, m1, m2, m3, m4⟩ := h4.2 j (ready_mono hj hji)
      obtain ⟨_, oj, hoj, _⟩ := mem_ready.1 hj
      obtain ⟨a1, a2, a3, a4, a5⟩ := hok.apart i j o oj hij ho hoj hnb
      refine ⟨wrj, hwj, m1, m2, fun e2 H2 q1 q2 => m3 e2 H2 (fun o' ho' t ht => ?_) (fun D hD => ?_), ?_⟩
      · rw [q1 o' ho' t ht, upds_get]
        intro hk
        rw [hoj] at ho'; cases ho'
        exact a1 t (h1 t hk) ht
      · rw [q2 D hD, hsets_get]
        intro hk
        exact (a4 D (h2 D hk)).1 hD
      · refine PAny_peel hok ho f (l.setIfInBounds j true) _ _ (closed_set hc hj) (fun k hk => getD_set_true (hlt k hk)) (by rw [getD_set_ne false hji]; exact hi) (ready_mono hr (fun h => hji h.symm)) ?_
        refine ⟨wr, hw, h1, h2, fun e2 H2 q1 q2 => h3 e2 H2 (fun o' ho' t ht => ?_) (fun D hD => ?_), ?_⟩
        · rw [q1 o' ho' t ht, upds_get]
          intro hk
          rw [ho] at ho'; cases ho'
          exact a2 t (m1 t hk) ht
        · rw [q2 D hD, hsets_get]
          intro hk
          exact a5 D (m2 D hk) hD
        · rw [Array.setIfInBounds_comm _ _ hji, upds_comm wrj wr e fun k hk hk2 => a3 k (h1 k hk2) (m1 k hk), hsets_comm hwj hw H fun D hD hD2 => (a4 D (h2 D hD2)).2 (m2 D hD)]
          exact m4

/-- The slots that are frozen for a call. -/
def fzw1 (t : Nat) : AV → List (Nat × AV)
  | .lst 2 xs => [(t, .lst 1 xs)]
  | _ => []

def fzWr (e : Env) : List Operand → List (Nat × AV)
  | [] => []
  | .tmp t :: l => fzw1 t (e t) ++ fzWr (fz1 e t (e t)) l
  | .const _ :: l => fzWr e l
  | .func _ :: l => fzWr e l
  | .global _ :: l => fzWr e l

theorem upds_append : ∀ (a b : List (Nat × AV)) (e : Env), upds e (a ++ b) = upds (upds e a) b
  | [], _, _ => rfl
  | (t, x) :: a, b, e => by simp only [List.cons_append, upds]; exact upds_append a b _

theorem fzw1_eq (e : Env) (t : Nat) (x : AV) : upds e (fzw1 t x) = fz1 e t x := by
  cases x with
  | lst m xs =>
    cases m with
    | zero => rfl
    | succ m => cases m with
      | zero => rfl
      | succ m => cases m <;> rfl
  | _ => rfl

theorem fzWr_eq : ∀ (l : List Operand) (e : Env), upds e (fzWr e l) = fzE e l
  | [], _ => rfl
  | .tmp t :: l, e => by simp only [fzWr, fzE]; rw [upds_append, fzw1_eq, fzWr_eq l]
  | .const _ :: l, e => by simp only [fzWr, fzE]; exact fzWr_eq l e
  | .func _ :: l, e => by simp only [fzWr, fzE]; exact fzWr_eq l e
  | .global _ :: l, e => by simp only [fzWr, fzE]; exact fzWr_eq l e

theorem fz1_get {e e2 : Env} {t : Nat} {x : AV} {u : Nat} (h : e2 u = e u) : fz1 e2 t x u = fz1 e t x u := by
  rw [← fzw1_eq, ← fzw1_eq]
  cases x with
  | lst m xs =>
    cases m with
    | zero => exact h
    | succ m => cases m with
      | zero => exact h
      | succ m => cases m with
        | zero => simp only [fzw1, upds, upd]; split <;> first | rfl | exact h
        | succ m => exact h
  | _ => exact h

theorem fzWr_congr : ∀ (l : List Operand) (e e2 : Env), (∀ t ∈ opTmps l, e2 t = e t) → fzWr e2 l = fzWr e l
  | [], _, _, _ => rfl
  | .tmp t :: l, e, e2, h => by
    simp only [fzWr]
    have ht := h t (by simp [opTmps])
    rw [ht, fzWr_congr l (fz1 e t (e t)) (fz1 e2 t (e t)) fun u hu => fz1_get (h u (by simp only [opTmps, List.filterMap_cons, List.mem_cons]; exact .inr hu))]
  | .const _ :: l, e, e2, h => by simp only [fzWr]; exact fzWr_congr l e e2 fun t ht => h t (by simpa [opTmps] using ht)
  | .func _ :: l, e, e2, h => by simp only [fzWr]; exact fzWr_congr l e e2 fun t ht => h t (by simpa [opTmps] using ht)
  | .global _ :: l, e, e2, h => by simp only [fzWr]; exact fzWr_congr l e e2 fun t ht => h t (by simpa [opTmps] using ht)

theorem fzWr_keys : ∀ (l : List Operand) (e : Env), ∀ k ∈ (fzWr e l).map (·.1), k ∈ opTmps l
  | [], _, k, h => by cases h
  | .tmp t :: l, e, k, h => by
    simp only [fzWr, List.map_append, List.mem_append] at h
    simp only [opTmps, List.filterMap_cons, List.mem_cons]
    rcases h with h | h
    · left
      generalize e t = x at h
      unfold fzw1 at h
      split at h
      · simpa using h
      · cases h
    · exact .inr (fzWr_keys l _ k h)
  | .const _ :: l, e, k, h => by simp only [fzWr] at h; have := fzWr_keys l e k h; simpa [opTmps] using this
  | .func _ :: l, e, k, h => by simp only [fzWr] at h; have := fzWr_keys l e k h; simpa [opTmps] using this
  | .global _ :: l, e, k, h => by simp only [fzWr] at h; have := fzWr_keys l e k h; simpa [opTmps] using this

theorem fzE_congr (l m : List Operand) {e e2 : Env} (h : ∀ t ∈ opTmps (l ++ m), e2 t = e t) : ∀ t ∈ opTmps m, fzE e2 l t = fzE e l t := by
  induction l generalizing e e2 with
  | nil => exact h
  | cons X l ih =>
    have hl : ∀ t ∈ opTmps (l ++ m), e2 t = e t := fun t ht => h t (by rw [List.cons_append, opTmps_cons]; exact List.mem_append_right _ ht)
    cases X with
    | tmp t =>
      simp only [fzE]
      rw [h t (by simp [opTmps])]
      exact ih fun u hu => fz1_get (hl u hu)
    | _ => exact ih hl

/-- A call, whose effect is known. -/
def pcallK (P : Program) (F W : List Nat) : Option (Bool × AV) → Option (Bool × List AV) → Option Tmp → (Env → Hp → Prop) → Env → Hp → Prop
  | some (b, .sc (.func (.func f) fi ca)), some (c, xs), dst, K, e, H => (b && c && fi.toList.all one && ca.toList.all one) = true ∧
      ∃ (x : AV) (hw : List (Nat × AB)), (∀ H2 : Hp, (∀ D ∈ F, H2 D = H D) → ∀ K2 : AV → Hp → Prop, K2 x (hsets H2 hw) → ACalls P f (fi.toList.map AV.sc ++ xs ++ ca.toList.map AV.sc) H2 K2) ∧
        (∀ D ∈ hw.map (·.1), D ∈ W) ∧ K (dput e dst x) (hsets H hw)
  | _, _, _, _, _, _ => False

/-- A load that takes the token of its cell along. -/
def ptokK (F W : List Nat) : Option TI → Option (Bool × AV) → Tmp → (Env → Hp → Prop) → Env → Hp → Prop
  | some ti, some (b, .sc (.pointer (some ⟨B, off, none⟩))), s, K, e, H => b = true ∧ ti.agg = false ∧ B ∈ F ∧ B ∈ W ∧ loadB (H B) B off s K e H
  | _, _, _, _, _, _ => False

def stable1 (F : List Nat) : Option (Bool × AV) → Prop
  | some (_, .sc (.pointer (some a))) => a.block ∈ F
  | _ => True

def stableP (F : List Nat) (e : Env) : Op → Prop
  | .load _ X => stable1 F (arg e X)
  | _ => True

def setK (K : Env → Hp → Prop) (e : Env) (H : Hp) : Option (Prop × List (Nat × AV)) → Prop
  | some (p, wr) => p ∧ K (upds e wr) H
  | none => False

def pgen (P : Program) (T : Types) (ops : Array Oper) (tk : Bool) (F : List Nat) (o : Oper) (K : Env → Hp → Prop) (e : Env) (H : Hp) : Prop :=
  stableP F e o.op ∧ setK K e H (aset P T none ops tk e H o)

/-- A store, whose block is named. -/
def pstoreK (T : Types) (t : TypeId) (F W : List Nat) : Option (Bool × AV) → Operand → (Env → Hp → Prop) → Env → Hp → Prop
  | some (b, .sc (.pointer (some ⟨B, off, none⟩))), X, K, e, H => B ∈ F ∧ B ∈ W ∧ b = true ∧ storeX (T t) (H B) B off X K e H
  | _, _, _, _, _ => False

def pop (P : Program) (T : Types) (nt : Nat) (ops : Array Oper) (tk : Bool) (F W : List Nat) : Oper → (Env → Hp → Prop) → Env → Hp → Prop
  | ⟨dst, .call ⟨.value X, as, _⟩, _, _, _, none⟩, K, e, H => dstOk nt dst = true ∧ pcallK P F W (arg (fzE e as.toList) X) (args (fzE e as.toList) as.toList) dst K (fzE e as.toList) H
  | ⟨some s, .load t A, ty, ps, af, none⟩, K, e, H => dstOk nt (some s) = true ∧ bif tk then ptokK F W (T t) (arg e A) s K e H else pgen P T ops tk F ⟨some s, .load t A, ty, ps, af, none⟩ K e H
  | ⟨none, .store t A X, _, _, _, none⟩, K, e, H => pstoreK T t F W (arg e A) X K e H
  | o, K, e, H => dstOk nt o.dst = true ∧ pgen P T ops tk F o K e H

def pchg (tk : Bool) (o : Oper) : List Nat :=
  o.dst.toList ++ (match o.op with
    | .call ⟨.value _, as, _⟩ => opTmps as.toList
    | .store _ _ X => opTmps [X]
    | _ => ochanged tk o)

theorem apure_heap {F : List Nat} {op : Op} (h : stableP F e op) {H2 : Hp} (hF : ∀ D ∈ F, H2 D = H D) : apure T op e H2 = apure T op e H := by
  cases op with
  | load t X =>
    simp only [stableP] at h
    simp only [apure]
    cases T t with
    | none => rfl
    | some i =>
      generalize arg e X = q at h
      split
      · rfl
      · rename_i B o hq
        simp only [stable1] at h
        rw [hF B h]
      · rfl
  | slice t x lo hi mx => cases mx <;> rfl
  | call c =>
    obtain ⟨callee, as, ts⟩ := c
    cases callee with
    | builtin b => cases b <;> rfl
    | _ => rfl
  | _ => rfl

theorem aset_heap {F : List Nat} {ops : Array Oper} {tk : Bool} {o : Oper} (h : stableP F e o.op) {H2 : Hp} (hF : ∀ D ∈ F, H2 D = H D) : aset P T none ops tk e H2 o = aset P T none ops tk e H o := by
  have hap := apure_heap (T := T) h hF
  obtain ⟨dst, op, ty, pos, aft, gd⟩ := o
  cases dst with
  | none => cases gd <;> rfl
  | some t =>
    cases gd with
    | some jw =>
      obtain ⟨j, want⟩ := jw
      simp only [aset]
      cases op with
      | call c =>
        obtain ⟨callee, as, ts⟩ := c
        cases callee with
        | value X =>
          simp only [asetG]
          cases gdst ops e j want <;> rfl
        | _ => simp only [asetG]; rw [hap]
      | _ => simp only [asetG]; rw [hap]
    | none =>
      simp only [aset]
      cases op with
      | move X => cases X <;> first | rfl | (simp only [asetOp]; rw [hap])
      | assign X => cases X <;> first | rfl | (simp only [asetOp]; rw [hap])
      | call c =>
        obtain ⟨callee, as, ts⟩ := c
        cases callee with
        | builtin b => cases b <;> first | rfl | (simp only [asetOp]; rw [hap])
        | value X => rfl
        | _ => simp only [asetOp]; rw [hap]
      | _ => first | rfl | (simp only [asetOp]; rw [hap])

theorem PStep_gen (hT : TOk P T) {ops : Array Oper} {i : Nat} {o : Oper} (hi : ops[i]? = some o) (hd : dstOk C.nt o.dst = true) {tk : Bool} {F W : List Nat} {K : Env → Hp → Prop} (h : pgen P T ops tk F o K e H) : PStep P C ops i (ochanged tk o) F W K e H := by
  obtain ⟨h1, h2⟩ := h
  unfold setK at h2
  split at h2
  · rename_i p wr ha
    refine ⟨wr, [], aset_keys ha, fun D hD => (by cases hD), fun e2 H2 q1 q2 K2 Kx hk => ?_, h2.2⟩
    have ha2 : aset P T none ops tk e2 H2 o = some (p, wr) := by
      rw [← ha, aset_congr (e' := e) (q1 o hi)]
      exact aset_heap h1 q2
    exact AOp_aset hT hi hd ha2 h2.1 hk
  · exact h2.elim

theorem pcallK_inv {F W : List Nat} {q : Option (Bool × AV)} {r : Option (Bool × List AV)} {dst : Option Tmp} {K : Env → Hp → Prop} {e : Env} {H : Hp} (h : pcallK P F W q r dst K e H) :
    ∃ b f fi ca c xs, q = some (b, .sc (.func (.func f) fi ca)) ∧ r = some (c, xs) ∧ (b && c && fi.toList.all one && ca.toList.all one) = true ∧
      ∃ (x : AV) (hw : List (Nat × AB)), (∀ H2 : Hp, (∀ D ∈ F, H2 D = H D) → ∀ K2 : AV → Hp → Prop, K2 x (hsets H2 hw) → ACalls P f (fi.toList.map AV.sc ++ xs ++ ca.toList.map AV.sc) H2 K2) ∧
        (∀ D ∈ hw.map (·.1), D ∈ W) ∧ K (dput e dst x) (hsets H hw) := by
  unfold pcallK at h
  split at h
  · exact ⟨_, _, _, _, _, _, rfl, rfl, h⟩
  · exact h.elim

theorem enterK_mk {q : Option (Bool × AV)} {r : Option (Bool × List AV)} {dst : Option Tmp} {K : Env → Hp → Prop} {e : Env} {H : Hp} {b f fi ca c xs} (hq : q = some (b, .sc (.func (.func f) fi ca))) (hr : r = some (c, xs))
    (h1 : (b && c && fi.toList.all one && ca.toList.all one) = true) (h2 : ACalls P f (fi.toList.map AV.sc ++ xs ++ ca.toList.map AV.sc) H (callK K e dst)) : enterK P q r dst K e H := by
  rw [hq, hr]; exact ⟨h1, h2⟩

theorem PStep_call {ops : Array Oper} {i : Nat} {dst : Option Tmp} {X : Operand} {as : Array Operand} {ts : Array TypeId} {ty : TypeId} {ps : String} {af : Array Edge} (hi : ops[i]? = some ⟨dst, .call ⟨.value X, as, ts⟩, ty, ps, af, none⟩) (hd : dstOk C.nt dst = true)
    {F W : List Nat} {K : Env → Hp → Prop} (h : pcallK P F W (arg (fzE e as.toList) X) (args (fzE e as.toList) as.toList) dst K (fzE e as.toList) H) : PStep P C ops i (dst.toList ++ opTmps as.toList) F W K e H := by
  obtain ⟨b, f, fi, ca, c, xs, hX, hxs, h1, x, hw, h2, h3, h4⟩ := pcallK_inv h
  by_cases hh : True
  · have hup0 := trivial
    have hup : ∀ e2 : Env, fzWr e2 as.toList = fzWr e as.toList → upds e2 (fzWr e as.toList ++ dst.toList.map fun t => (t, x)) = dput (fzE e2 as.toList) dst x := fun e2 he => by
      rw [upds_append, ← he, fzWr_eq]
      cases dst <;> rfl
    refine ⟨fzWr e as.toList ++ dst.toList.map fun t => (t, x), hw, fun k hk => ?_, h3, fun e2 H2 q1 q2 K2 Kx hk => ?_, by rw [hup e rfl]; exact h4⟩
    · simp only [List.map_append, List.mem_append] at hk ⊢
      rcases hk with hk | hk
      · exact .inr (fzWr_keys _ _ k hk)
      · left; simpa using hk
    · have hn : ∀ t ∈ opTmps (as.toList ++ (as.toList ++ [X])), e2 t = e t := fun t ht => q1 _ hi t (by
        obtain ⟨Y, hY, hYt⟩ := List.mem_filterMap.1 ht
        have : Y ∈ (Op.call ⟨.value X, as, ts⟩).operands.toList := by
          simp only [List.mem_append, List.mem_singleton] at hY
          simp only [Op.operands, Call.operands]
          rcases hY with hY | hY | hY <;> simp [hY]
          all_goals (first | (right; simpa using hY) | skip)
        simp only [onames, List.mem_append]
        exact .inl (.inr (List.mem_filterMap.2 ⟨Y, this, hYt⟩)))
      have hfz := fzE_congr as.toList (as.toList ++ [X]) hn
      have hX2 : arg (fzE e2 as.toList) X = some (b, .sc (.func (.func f) fi ca)) := by
        rw [← hX]; exact arg_congr fun t ht => hfz t (by
          obtain ⟨Y, hY, hYt⟩ := List.mem_filterMap.1 ht
          exact List.mem_filterMap.2 ⟨Y, List.mem_append_right _ hY, hYt⟩)
      have hxs2 : args (fzE e2 as.toList) as.toList = some (c, xs) := by
        rw [← hxs]; exact args_congr fun t ht => hfz t (by
          obtain ⟨Y, hY, hYt⟩ := List.mem_filterMap.1 ht
          exact List.mem_filterMap.2 ⟨Y, List.mem_append_left _ hY, hYt⟩)
      refine AOp_fzE (l := as.toList) (AOp_enterK hi rfl hd rfl (enterK_mk hX2 hxs2 h1 (h2 H2 q2 _ ?_)))
      show K2 (dput (fzE e2 as.toList) dst x) (hsets H2 hw)
      rw [← hup e2 (fzWr_congr _ _ _ fun t ht => hn t (by
        obtain ⟨Y, hY, hYt⟩ := List.mem_filterMap.1 ht
        exact List.mem_filterMap.2 ⟨Y, List.mem_append_left _ hY, hYt⟩))]
      exact hk
  · exact absurd trivial hh

theorem ptokK_inv {F W : List Nat} {r : Option TI} {q : Option (Bool × AV)} {s : Tmp} {K : Env → Hp → Prop} {e : Env} {H : Hp} (h : ptokK F W r q s K e H) :
    ∃ ti b B off, r = some ti ∧ q = some (b, .sc (.pointer (some ⟨B, off, none⟩))) ∧ b = true ∧ ti.agg = false ∧ B ∈ F ∧ B ∈ W ∧ loadB (H B) B off s K e H := by
  unfold ptokK at h
  split at h
  · exact ⟨_, _, _, _, rfl, rfl, h⟩
  · exact h.elim

theorem PStep_tok (hT : TOk P T) {ops : Array Oper} {i : Nat} {o : Oper} (hi : ops[i]? = some o) (hg : o.guard = none) {s : Tmp} (hdst : o.dst = some s) (hd : dstOk C.nt o.dst = true) {t : TypeId} {A : Operand} (ho : o.op = .load t A)
    {F W : List Nat} {K : Env → Hp → Prop} (h : ptokK F W (T t) (arg e A) s K e H) : PStep P C ops i [s] F W K e H := by
  obtain ⟨ti, b, B, off, ht, hA, rfl, hag, hF, hW, h⟩ := ptokK_inv h
  obtain ⟨cs, hb, h⟩ := loadB_inv h
  obtain ⟨m, xs, hX, hm, hk⟩ := loadC_inv h
  refine ⟨[(s, .lst m xs)], [(B, .cells (cs.take off ++ [(AV.lst m xs).rest] ++ cs.drop (off + 1)))], fun k hk => by simpa using hk, fun D hD => ?_, fun e2 H2 q1 q2 K2 Kx hk2 => ?_, hk⟩
  · simp only [List.map_cons, List.map_nil, List.mem_singleton] at hD; subst hD; exact hW
  · refine AOp_loadTok hT hi hg hdst hd ho ht hag ?_ (by rw [q2 B hF, hb]) hX hm hk2
    rw [← hA]
    exact arg_congr fun u hu => q1 o hi u (by
      simp only [onames, List.mem_append]
      exact .inl (.inr (by rw [ho]; simpa [Op.operands] using hu)))

theorem PStep.mono {ops : Array Oper} {i : Nat} {c c' F W : List Nat} {K K' : Env → Hp → Prop} (h : PStep P C ops i c F W K e H) (hc : ∀ k ∈ c, k ∈ c') (hk : ∀ e H, K e H → K' e H) : PStep P C ops i c' F W K' e H := by
  obtain ⟨wr, hw, h1, h2, h3, h4⟩ := h
  exact ⟨wr, hw, fun k hk => hc k (h1 k hk), h2, h3, hk _ _ h4⟩

theorem storeP_det {ti : Option TI} {B off : Nat} {r : Option (Bool × AV)} {K : Env → Hp → Prop} (h : storeP ti (H B) B off r K e H) : ∃ hw : List (Nat × AB), (∀ D ∈ hw.map (·.1), D = B) ∧ K e (hsets H hw) ∧
    ∀ (e2 : Env) (H2 : Hp) (K2 : Env → Hp → Prop), H2 B = H B → K2 e2 (hsets H2 hw) → storeP ti (H2 B) B off r K2 e2 H2 := by
  obtain ⟨i, cs, c, x, h1, h2, h3, h4, h5, h6, h7⟩ := storeP_inv h
  refine ⟨[(B, .cells (cs.take off ++ x.kept.cells ++ cs.drop (off + i.size)))], fun D hD => by simpa using hD, h7, fun e2 H2 K2 hH hk => ?_⟩
  rw [h1, hH, h2, h3]
  exact ⟨h4, h5, h6, hk⟩

theorem storeS_det {x : AV} {ti : Option TI} {B off s : Nat} {K : Env → Hp → Prop} (h : storeS x ti (H B) B off s K e H) : ∃ (wr : List (Nat × AV)) (hw : List (Nat × AB)), (∀ k ∈ wr.map (·.1), k = s) ∧ (∀ D ∈ hw.map (·.1), D = B) ∧ K (upds e wr) (hsets H hw) ∧
    ∀ (e2 : Env) (H2 : Hp) (K2 : Env → Hp → Prop), H2 B = H B → K2 (upds e2 wr) (hsets H2 hw) → storeS x ti (H2 B) B off s K2 e2 H2 := by
  have tok : ∀ xs, storeT ti (H B) B off s xs K e H → ∃ (wr : List (Nat × AV)) (hw : List (Nat × AB)), (∀ k ∈ wr.map (·.1), k = s) ∧ (∀ D ∈ hw.map (·.1), D = B) ∧ K (upds e wr) (hsets H hw) ∧
      ∀ (e2 : Env) (H2 : Hp) (K2 : Env → Hp → Prop), H2 B = H B → K2 (upds e2 wr) (hsets H2 hw) → storeT ti (H2 B) B off s xs K2 e2 H2 := fun xs h => by
    obtain ⟨i, cs, h1, h2, h3, h4, h5⟩ := storeT_inv h
    refine ⟨[(s, .lst 0 xs)], [(B, .cells (cs.take off ++ [AV.lst 1 xs] ++ cs.drop (off + 1)))], fun k hk => by simpa using hk, fun D hD => by simpa using hD, h5, fun e2 H2 K2 hH hk => ?_⟩
    rw [h1, hH, h2]
    exact ⟨h3, h4, hk⟩
  have pl : ∀ r, storeP ti (H B) B off r K e H → ∃ (wr : List (Nat × AV)) (hw : List (Nat × AB)), (∀ k ∈ wr.map (·.1), k = s) ∧ (∀ D ∈ hw.map (·.1), D = B) ∧ K (upds e wr) (hsets H hw) ∧
      ∀ (e2 : Env) (H2 : Hp) (K2 : Env → Hp → Prop), H2 B = H B → K2 (upds e2 wr) (hsets H2 hw) → storeP ti (H2 B) B off r K2 e2 H2 := fun r h => by
    obtain ⟨hw, h1, h2, h3⟩ := storeP_det h
    exact ⟨[], hw, fun k hk => (by cases hk), h1, h2, h3⟩
  unfold storeS at h
  split at h
  · obtain ⟨wr, hw, a1, a2, a3, a4⟩ := tok _ h; exact ⟨wr, hw, a1, a2, a3, a4⟩
  · obtain ⟨wr, hw, a1, a2, a3, a4⟩ := tok _ h; exact ⟨wr, hw, a1, a2, a3, a4⟩
  · obtain ⟨wr, hw, a1, a2, a3, a4⟩ := pl _ h; exact ⟨wr, hw, a1, a2, a3, a4⟩
  · obtain ⟨wr, hw, a1, a2, a3, a4⟩ := pl _ h; exact ⟨wr, hw, a1, a2, a3, a4⟩
  · obtain ⟨wr, hw, a1, a2, a3, a4⟩ := pl _ h; exact ⟨wr, hw, a1, a2, a3, a4⟩
  · obtain ⟨wr, hw, a1, a2, a3, a4⟩ := pl _ h; exact ⟨wr, hw, a1, a2, a3, a4⟩
  · obtain ⟨wr, hw, a1, a2, a3, a4⟩ := pl _ h; exact ⟨wr, hw, a1, a2, a3, a4⟩
  · exact h.elim

theorem storeX_det {X : Operand} {ti : Option TI} {B off : Nat} {K : Env → Hp → Prop} (h : storeX ti (H B) B off X K e H) : ∃ (wr : List (Nat × AV)) (hw : List (Nat × AB)), (∀ k ∈ wr.map (·.1), k ∈ opTmps [X]) ∧ (∀ D ∈ hw.map (·.1), D = B) ∧ K (upds e wr) (hsets H hw) ∧
    ∀ (e2 : Env) (H2 : Hp) (K2 : Env → Hp → Prop), (∀ u ∈ opTmps [X], e2 u = e u) → H2 B = H B → K2 (upds e2 wr) (hsets H2 hw) → storeX ti (H2 B) B off X K2 e2 H2 := by
  cases X with
  | tmp s =>
    obtain ⟨wr, hw, a1, a2, a3, a4⟩ := storeS_det (x := e s) h
    refine ⟨wr, hw, fun k hk => by simp [opTmps, a1 k hk], a2, a3, fun e2 H2 K2 he hH hk => ?_⟩
    simp only [storeX]
    rw [he s (by simp [opTmps])]
    exact a4 e2 H2 K2 hH hk
  | const v =>
    obtain ⟨hw, a2, a3, a4⟩ := storeP_det h
    exact ⟨[], hw, fun k hk => (by cases hk), a2, a3, fun e2 H2 K2 _ hH hk => a4 e2 H2 K2 hH hk⟩
  | func v =>
    obtain ⟨hw, a2, a3, a4⟩ := storeP_det h
    exact ⟨[], hw, fun k hk => (by cases hk), a2, a3, fun e2 H2 K2 _ hH hk => a4 e2 H2 K2 hH hk⟩
  | global g => exact h.elim

theorem pstoreK_inv {t : TypeId} {F W : List Nat} {q : Option (Bool × AV)} {X : Operand} {K : Env → Hp → Prop} (h : pstoreK T t F W q X K e H) :
    ∃ B off, q = some (true, .sc (.pointer (some ⟨B, off, none⟩))) ∧ B ∈ F ∧ B ∈ W ∧ storeX (T t) (H B) B off X K e H := by
  unfold pstoreK at h
  split at h
  · obtain ⟨hF, hW, rfl, h⟩ := h; exact ⟨_, _, rfl, hF, hW, h⟩
  · exact h.elim

theorem PStep_store (hT : TOk P T) {ops : Array Oper} {i : Nat} {t : TypeId} {A X : Operand} {ty : TypeId} {ps : String} {af : Array Edge} (hi : ops[i]? = some ⟨none, .store t A X, ty, ps, af, none⟩)
    {F W : List Nat} {K : Env → Hp → Prop} (h : pstoreK T t F W (arg e A) X K e H) : PStep P C ops i (opTmps [X]) F W K e H := by
  obtain ⟨B, off, hA, hF, hW, h⟩ := pstoreK_inv h
  obtain ⟨wr, hw, a1, a2, a3, a4⟩ := storeX_det h
  refine ⟨wr, hw, a1, fun D hD => by rw [a2 D hD]; exact hW, fun e2 H2 q1 q2 K2 Kx hk => ?_, a3⟩
  have hn : ∀ u ∈ opTmps [A, X], e2 u = e u := fun u hu => q1 _ hi u (by
    simp only [onames, List.mem_append]
    exact .inl (.inr (by simpa [Op.operands] using hu)))
  refine AOp_bare (tk := false) hT hi rfl rfl ?_
  simp only [abare]
  have hA2 : arg e2 A = some (true, .sc (.pointer (some ⟨B, off, none⟩))) := by
    rw [← hA]; exact arg_congr fun u hu => hn u (by rw [opTmps_cons]; exact List.mem_append_left _ hu)
  rw [hA2]
  exact ⟨rfl, a4 e2 H2 _ (fun u hu => hn u (by rw [opTmps_cons]; exact List.mem_append_right _ hu)) (q2 B hF) hk⟩

theorem PStep_pop (hT : TOk P T) {ops : Array Oper} {i : Nat} {o : Oper} (hi : ops[i]? = some o) {tk : Bool} {F W : List Nat} {K : Env → Hp → Prop} (h : pop P T C.nt ops tk F W o K e H) : PStep P C ops i (pchg tk o) F W K e H := by
  unfold pop at h
  split at h
  · rename_i dst X as ts ty ps af
    exact (PStep_call hi h.1 h.2).mono (fun k hk => by simpa [pchg] using hk) fun _ _ h => h
  · rename_i s t A ty ps af
    obtain ⟨hd, h⟩ := h
    cases tk with
    | true => exact (PStep_tok hT hi rfl rfl hd rfl h).mono (fun k hk => by simp only [List.mem_singleton] at hk; subst hk; simp [pchg]) fun _ _ h => h
    | false => exact (PStep_gen hT hi hd h).mono (fun k hk => by simp only [pchg, List.mem_append]; exact .inr hk) fun _ _ h => h
  · exact (PStep_store hT hi h).mono (fun k hk => by simpa [pchg] using hk) fun _ _ h => h
  · rename_i h1 h2
    obtain ⟨hd, h⟩ := h
    refine (PStep_gen hT hi hd h).mono (fun k hk => ?_) fun _ _ h => h
    simp only [pchg, List.mem_append]
    obtain ⟨dst, op, ty, ps, af, gd⟩ := o
    cases op with
    | call c =>
      obtain ⟨callee, as, ts⟩ := c
      cases callee with
      | value X => left; simpa [ochanged] using hk
      | _ => exact .inr hk
    | store t A X => left; simpa [ochanged] using hk
    | _ => exact .inr hk

/-- One order. -/
def prun (P : Program) (T : Types) (nt : Nat) (ops : Array Oper) (tk : List Nat) (F W : Nat → List Nat) : Nat → List Oper → (Env → Hp → Prop) → Env → Hp → Prop
  | _, [], K, e, H => K e H
  | i, o :: os, K, e, H => pop P T nt ops (tk.contains i) (F i) (W i) o (prun P T nt ops tk F W (i + 1) os K) e H

def pchgs (ops : Array Oper) (tk : List Nat) (i : Nat) : List Nat :=
  match ops[i]? with
  | some o => pchg (tk.contains i) o
  | none => []

theorem PAny_prun (hT : TOk P T) {ops : Array Oper} {tk : List Nat} {F W : Nat → List Nat} {Kx : Env → Hp → Prop} (hok : ParOk ops (pchgs ops tk) F W) : ∀ (os : List Oper) (i : Nat) (l : Array Bool) {e : Env} {H : Hp}, ops.toList.drop i = os → l.size = ops.size →
    (∀ k, k < ops.size → l.getD k false = decide (k < i)) → prun P T C.nt ops tk F W i os Kx e H → PAny P C ops (pchgs ops tk) F W Kx os.length l e H
  | [], i, l, e, H, hdr, hsz, hl, h => by
    simp only [prun] at h
    refine ⟨?_, h⟩
    have hin : ops.size ≤ i := by
      have := congrArg List.length hdr
      simp at this; omega
    cases hrd : Region.ready .any ops l with
    | nil => rfl
    | cons j js =>
      obtain ⟨hjun, o, ho, _⟩ := mem_ready.1 (show j ∈ Region.ready .any ops l by rw [hrd]; simp)
      have hjs := (Array.getElem?_eq_some_iff.1 ho).1
      have := hl j hjs
      rw [Array.getD_eq_getD_getElem?, Array.getElem?_eq_getElem (by omega)] at this hjun
      simp at this hjun
      rw [hjun] at this
      simp at this; omega
  | o :: os, i, l, e, H, hdr, hsz, hl, h => by
    have ho : ops[i]? = some o := by
      have : (ops.toList.drop i)[0]? = some o := by rw [hdr]; rfl
      rw [List.getElem?_drop] at this
      simpa using this
    have hdr2 : ops.toList.drop (i + 1) = os := by rw [← List.drop_drop, hdr]; rfl
    have his := (Array.getElem?_eq_some_iff.1 ho).1
    have hlt : ∀ k, k < i → l.getD k false = true := fun k hk => by rw [hl k (by omega)]; simpa using hk
    have hi : l.getD i false = false := by rw [hl i his]; simp
    have hc : Closed ops l := by
      intro k o' hk ho' ed he hb
      have hks := (Array.getElem?_eq_some_iff.1 ho').1
      rw [hl k hks] at hk
      simp only [decide_eq_true_eq] at hk
      exact hlt _ (by have := hok.edge k o' ho' ed he hb; omega)
    have hr : i ∈ Region.ready .any ops l := mem_ready.2 ⟨by
      rw [Array.getD_eq_getD_getElem?, Array.getElem?_eq_getElem (by omega)] at hi ⊢
      simpa using hi, o, ho, fun ed he hb => hlt _ (hok.edge i o ho ed he hb)⟩
    have hl2 : ∀ k, k < ops.size → (l.setIfInBounds i true).getD k false = decide (k < i + 1) := fun k hk => by
      by_cases hki : i = k
      · subst hki
        rw [Array.getD_eq_getD_getElem?, Array.getElem?_setIfInBounds_self_of_lt (by omega)]
        simp
      · rw [getD_set_ne false hki, hl k hk]
        congr 1
        apply propext
        omega
    simp only [prun] at h
    exact PAny_peel hok ho os.length l _ _ hc hlt hi hr ((PStep_pop hT ho h).mono (fun k hk => by simp only [pchgs, ho]; exact hk) fun e' H' hk => PAny_prun hT hok os (i + 1) _ hdr2 (by simpa using hsz) hl2 hk)

/-- The look at slots, that the kernel carries out. -/
def parLook (ops : Array Oper) (tk : List Nat) : Bool :=
  (List.range ops.size).all fun j => (match ops[j]? with | some o => o.after.toList.all fun ed => !Region.binds .any ed || decide (ed.on < j) | none => false) &&
    (List.range j).all fun i => (behind ops i ops.size).getD j false || (match ops[i]?, ops[j]? with
      | some x, some y => disj (pchgs ops tk i) (onames ops y) && disj (pchgs ops tk j) (onames ops x) && disj (pchgs ops tk i) (pchgs ops tk j)
      | _, _ => false)

/-- The pairs that are not ordered, of which one turns blocks. -/
def parPairs (ops : Array Oper) (w : List Nat) : List (Nat × Nat) :=
  (List.range ops.size).flatMap fun j => (List.range j).filterMap fun i => if (behind ops i ops.size).getD j false then none else if w.contains i || w.contains j then some (i, j) else none

def pairsOk (F W : Nat → List Nat) : List (Nat × Nat) → Prop
  | [] => True
  | (i, j) :: l => ((∀ D ∈ W i, D ∉ F j ∧ D ∉ W j) ∧ (∀ D ∈ W j, D ∉ F i)) ∧ pairsOk F W l

theorem pairsOk_mem {F W : Nat → List Nat} : ∀ {l : List (Nat × Nat)}, pairsOk F W l → ∀ {i j : Nat}, (i, j) ∈ l → (∀ D ∈ W i, D ∉ F j ∧ D ∉ W j) ∧ (∀ D ∈ W j, D ∉ F i)
  | [], _, _, _, h => by cases h
  | (a, b) :: l, hp, i, j, h => by
    rcases List.mem_cons.1 h with h | h
    · cases h; exact hp.1
    · exact pairsOk_mem hp.2 h

theorem ParOk_mk {ops : Array Oper} {tk w : List Nat} {F W : Nat → List Nat} (hl : parLook ops tk = true) (hw : ∀ i, w.contains i = false → W i = []) (hp : pairsOk F W (parPairs ops w)) : ParOk ops (pchgs ops tk) F W := by
  simp only [parLook, List.all_eq_true, List.mem_range, Bool.and_eq_true] at hl
  refine ⟨fun j o ho ed he hb => ?_, fun i j x y hij hx hy hnb => ?_⟩
  · have hjs := (Array.getElem?_eq_some_iff.1 ho).1
    have := (hl j hjs).1
    rw [ho] at this
    have := List.all_eq_true.1 this ed (by simpa using he)
    simpa [hb] using this
  · have hjs := (Array.getElem?_eq_some_iff.1 hy).1
    have := (hl j hjs).2 i hij
    rw [hnb, hx, hy] at this
    simp only [Bool.false_or, Bool.and_eq_true] at this
    obtain ⟨⟨a1, a2⟩, a3⟩ := this
    refine ⟨fun t ht => disj_spec a1 ht, fun t ht => disj_spec a2 ht, fun t ht => disj_spec a3 ht, ?_⟩
    cases hc : w.contains i || w.contains j with
    | true =>
      exact pairsOk_mem hp (List.mem_flatMap.2 ⟨j, List.mem_range.2 hjs, List.mem_filterMap.2 ⟨i, List.mem_range.2 hij, by rw [hnb, hc]; rfl⟩⟩)
    | false =>
      simp only [Bool.or_eq_false_iff] at hc
      rw [hw i hc.1, hw j hc.2]
      exact ⟨fun D hD => (by cases hD), fun D hD => (by cases hD)⟩

/-- A region whose order is open, with calls and loads of tokens. -/
theorem AWp_par (hT : TOk P T) (hm : P.follows .mixedOrders = true) {id : Nat} {ops : Array Oper} {tk w : List Nat} {F W : Nat → List Nat} {Q : Exit → Env → Hp → Prop} (hl : parLook ops tk = true) (hw : ∀ i, w.contains i = false → W i = [])
    (hp : pairsOk F W (parPairs ops w)) (h : prun P T C.nt ops tk F W 0 ops.toList (Q .normal) e H) : AWp P C (.region id ops true) Q e H := by
  intro g a w' hr
  refine wp_region_any hm ?_
  have hkp : Keep g w' g { w' with drawn := w'.drawn + 1 } := ⟨Nat.le_refl _, fun _ => Nat.le_refl _, fun _ _ _ => rfl, ⟨rfl, rfl, rfl⟩⟩
  have hs : ∀ o, SameOf o g w' g { w' with drawn := w'.drawn + 1 } := fun _ _ h => ⟨h, rfl, rfl⟩
  have hr2 : SRel g C e H a { w' with drawn := w'.drawn + 1 } := ⟨⟨hr.inv.fresh, hr.inv.cells⟩, fun B b hb => ⟨(hr.heap B b hb).1, (hr.heap B b hb).2.keep hkp (hs _) (hr.heap B b hb).1 fun _ => hs _⟩, hr.defers, hr.size,
    fun t ht => let ⟨v, h1, h2⟩ := hr.slots t ht; ⟨v, h1, h2.keep hkp (hs _)⟩⟩
  have hg : Guar C.d H H g w' g { w' with drawn := w'.drawn + 1 } := ⟨hkp, fun _ _ h hf => ⟨h, hf, rfl, rfl⟩⟩
  have hd := PAny_prun (C := C) (Kx := Q .normal) hT (ParOk_mk hl hw hp) ops.toList 0 (Array.replicate ops.size false) rfl (by simp) (fun k hk => by
    rw [Array.getD_eq_getD_getElem?, Array.getElem?_replicate]; simp [hk]) h
  have := PAny_sound _ _ e H hd g a _ hr2 (fun ex a' w2 => ∃ g' e' H', Guar C.d H H' g w' g' w2 ∧ SRel g' C e' H' a' w2 ∧ Q ex e' H') fun ex g' a' w2 e' H' k1 k2 k3 => ⟨g', e', H', hg.trans k1, k2, k3⟩
  simpa using this

/-- Blocks by number of operation. -/
def asg : List (Nat × List Nat) → Nat → List Nat
  | [], _ => []
  | (i, l) :: m, j => bif j == i then l else asg m j

theorem asg_nil : ∀ {m : List (Nat × List Nat)} {i : Nat}, (m.map (·.1)).contains i = false → asg m i = []
  | [], _, _ => rfl
  | (k, l) :: m, i, h => by
    simp only [List.map_cons, List.contains_cons, Bool.or_eq_false_iff] at h
    simp only [asg, h.1, cond_false]
    exact asg_nil h.2

theorem AWp_open (hT : TOk P T) (hm : P.follows .mixedOrders = true) {id : Nat} {ops : Array Oper} {Q : Exit → Env → Hp → Prop} (tk : List Nat) (F W : List (Nat × List Nat)) (w : List Nat) (hw : W.map (·.1) = w) (pr : List (Nat × Nat)) (hl : parLook ops tk = true)
    (hpr : parPairs ops w = pr) (hp : pairsOk (asg F) (asg W) pr) (h : prun P T C.nt ops tk (asg F) (asg W) 0 ops.toList (Q .normal) e H) : AWp P C (.region id ops true) Q e H := by
  subst hw hpr
  exact AWp_par hT hm hl (fun i hi => asg_nil hi) hp h

end
end Go.Ab

/- Ab.Simp: the equations by which a region is worked out. -/
namespace Go.Ab

attribute [go_sem] moveK.eq_1 moveK.eq_2 moveK.eq_3 moveK.eq_4 moveK.eq_5 moveK.eq_6 moveK.eq_7 moveK.eq_8 moveK.eq_9 moveK.eq_10 moveK.eq_11 moveK.eq_12
attribute [go_sem] pureK.eq_1 pureK.eq_2
attribute [go_sem] allocK.eq_1 allocK.eq_2
attribute [go_sem] boxK.eq_1 boxK.eq_2
attribute [go_sem] storeP.eq_1 storeP.eq_2
attribute [go_sem] storeT.eq_1 storeT.eq_2
attribute [go_sem] storeS.eq_1 storeS.eq_2 storeS.eq_3 storeS.eq_4 storeS.eq_5 storeS.eq_6 storeS.eq_7 storeS.eq_8
attribute [go_sem] storeX.eq_1 storeX.eq_2 storeX.eq_3 storeX.eq_4
attribute [go_sem] storeK.eq_1 storeK.eq_2
attribute [go_sem] litK.eq_1 litK.eq_2
attribute [go_sem] appendK.eq_1 appendK.eq_2
attribute [go_sem] enterK.eq_1 enterK.eq_2
attribute [go_sem] appendA.eq_1 appendA.eq_2
attribute [go_sem] abare.eq_1 abare.eq_2 abare.eq_3 abare.eq_4 abare.eq_5 abare.eq_6 abare.eq_7 abare.eq_8 abare.eq_9 abare.eq_10 abare.eq_11 abare.eq_12 abare.eq_13 abare.eq_14 abare.eq_15
attribute [go_sem] guardK.eq_1 guardK.eq_2 guardK.eq_3
attribute [go_sem] gval.eq_1 gval.eq_2 gval.eq_3
attribute [go_sem] astep.eq_1 astep.eq_2
attribute [go_sem] areg.eq_1 areg.eq_2
attribute [go_sem] ofL.eq_1 ofL.eq_2
attribute [go_sem] arg.eq_1 arg.eq_2 arg.eq_3 arg.eq_4
attribute [go_sem] unmay.eq_1 unmay.eq_2
attribute [go_sem] aval.eq_1 aval.eq_2
attribute [go_sem] apure.eq_1 apure.eq_2 apure.eq_3 apure.eq_4 apure.eq_5 apure.eq_6 apure.eq_7 apure.eq_8 apure.eq_9 apure.eq_10 apure.eq_11 apure.eq_12 apure.eq_13 apure.eq_14 apure.eq_15 apure.eq_16 apure.eq_17 apure.eq_18 apure.eq_19 apure.eq_20 apure.eq_21 apure.eq_22 apure.eq_23
attribute [go_sem] abin.eq_1 abin.eq_2 abin.eq_3 abin.eq_4 abin.eq_5 abin.eq_6 abin.eq_7 abin.eq_8
attribute [go_sem] intBin.eq_1 intBin.eq_2 intBin.eq_3 intBin.eq_4 intBin.eq_5 intBin.eq_6 intBin.eq_7 intBin.eq_8 intBin.eq_9 intBin.eq_10 intBin.eq_11 intBin.eq_12
attribute [go_sem] cmp.eq_1 cmp.eq_2 cmp.eq_3 cmp.eq_4 cmp.eq_5 cmp.eq_6 cmp.eq_7
attribute [go_sem] veq.eq_1 veq.eq_2 veq.eq_3 veq.eq_4 veq.eq_5 veq.eq_6 veq.eq_7 veq.eq_8 veq.eq_9 veq.eq_10 veq.eq_11
attribute [go_sem] afill.eq_1 afill.eq_2
attribute [go_sem] args.eq_1 args.eq_2
attribute [go_sem] pargs.eq_1 pargs.eq_2
attribute [go_sem] qargs.eq_1 qargs.eq_2
attribute [go_sem] scs.eq_1 scs.eq_2 scs.eq_3
attribute [go_sem] places.eq_1 places.eq_2
attribute [go_sem] fits.eq_1 fits.eq_2 fits.eq_3 fits.eq_4 fits.eq_5
attribute [go_sem] AV.frzn.eq_1 AV.frzn.eq_2
attribute [go_sem] AV.good.eq_1 AV.good.eq_2 AV.good.eq_3 AV.good.eq_4
attribute [go_sem] AV.strip.eq_1 AV.strip.eq_2
attribute [go_sem] AV.strip2.eq_1 AV.strip2.eq_2
attribute [go_sem] AV.plain.eq_1 AV.plain.eq_2 AV.plain.eq_3
attribute [go_sem] AV.cells.eq_1 AV.cells.eq_2
attribute [go_sem] AV.kept.eq_1 AV.kept.eq_2
attribute [go_sem] AV.rest.eq_1 AV.rest.eq_2 AV.rest.eq_3
attribute [go_sem] dstOk.eq_1 dstOk.eq_2
attribute [go_sem] one.eq_1 one.eq_2 one.eq_3
attribute [go_sem] isByte.eq_1 isByte.eq_2
attribute [go_sem] byteOf.eq_1 byteOf.eq_2
attribute [go_sem] ares.eq_1 ares.eq_2 ares.eq_3
attribute [go_sem] ares1.eq_1 ares1.eq_2
attribute [go_sem] aresN.eq_1 aresN.eq_2
attribute [go_sem] argL.eq_1 argL.eq_2
attribute [go_sem] thenQ.eq_1 thenQ.eq_2
attribute [go_sem] blockQ.eq_1 blockQ.eq_2
attribute [go_sem] TI.agg.eq_1
attribute [go_sem] part.eq_1
attribute [go_sem] setMove.eq_1 setMove.eq_2 setMove.eq_3 setMove.eq_4
attribute [go_sem] setLit.eq_1 setLit.eq_2
attribute [go_sem] setAppend.eq_1 setAppend.eq_2
attribute [go_sem] setCall.eq_1 setCall.eq_2
attribute [go_sem] setPure.eq_1 setPure.eq_2
attribute [go_sem] setGuard.eq_1 setGuard.eq_2 setGuard.eq_3
attribute [go_sem] appendOf.eq_1 appendOf.eq_2
attribute [go_sem] setApp.eq_1 setApp.eq_2
attribute [go_sem] asetOp.eq_1 asetOp.eq_2 asetOp.eq_3 asetOp.eq_4 asetOp.eq_5 asetOp.eq_6
attribute [go_sem] aset.eq_1 aset.eq_2 aset.eq_3
attribute [go_sem] upds.eq_1 upds.eq_2
attribute [go_sem] asetK.eq_1 asetK.eq_2
attribute [go_sem] dreg.eq_1 dreg.eq_2
attribute [go_sem] nilEq.eq_1 nilEq.eq_2 nilEq.eq_3
attribute [go_sem] anyK.eq_1
attribute [go_sem] nilK.eq_1 nilK.eq_2
attribute [go_sem] isNil.eq_1 isNil.eq_2
attribute [go_sem] fz1.eq_1 fz1.eq_2 fz1.eq_3 fz1.eq_4 fz1.eq_5 fz1.eq_6 fz1.eq_7 fz1.eq_8 fz1.eq_9 fz1.eq_10
attribute [go_sem] fzE.eq_1 fzE.eq_2 fzE.eq_3 fzE.eq_4 fzE.eq_5
attribute [go_sem] pureF.eq_1
attribute [go_sem] enterF.eq_1
attribute [go_sem] gcallK.eq_1 gcallK.eq_2
attribute [go_sem] guardA.eq_1 guardA.eq_2
attribute [go_sem] loadC.eq_1 loadC.eq_2 loadC.eq_3
attribute [go_sem] loadB.eq_1 loadB.eq_2
attribute [go_sem] loadK.eq_1 loadK.eq_2
attribute [go_sem] boxF.eq_1
attribute [go_sem] pcallK.eq_1 pcallK.eq_2
attribute [go_sem] ptokK.eq_1 ptokK.eq_2
attribute [go_sem] stable1.eq_1 stable1.eq_2
attribute [go_sem] stableP.eq_1 stableP.eq_2
attribute [go_sem] setK.eq_1 setK.eq_2
attribute [go_sem] pgen.eq_1
attribute [go_sem] pop.eq_1 pop.eq_2 pop.eq_3 pop.eq_4
attribute [go_sem] prun.eq_1 prun.eq_2
attribute [go_sem] hsets.eq_1 hsets.eq_2
attribute [go_sem] pairsOk.eq_1 pairsOk.eq_2
attribute [go_sem] asg.eq_1 asg.eq_2
attribute [go_sem] pstoreK.eq_1 pstoreK.eq_2
attribute [go_sem] setGCall.eq_1 setGCall.eq_2
attribute [go_sem] asetG.eq_1 asetG.eq_2
attribute [go_sem] upd_ofL dput_some dput_none newK gdst hset
attribute [go_sem] Option.map_some Option.map_none true_and and_true Bool.and_self Bool.true_and Bool.and_true or_self or_true true_or false_or or_false List.map_cons List.map_nil cond_true cond_false if_true if_false Option.bind_some Option.bind_none
  List.toList_toArray List.nil_append List.append_nil List.cons_append List.all_cons List.all_nil List.length_cons List.length_nil List.contains_nil Bool.not_true Bool.not_false Bool.false_eq_true forall_const ne_eq not_true_eq_false not_false_eq_true
  List.getElem?_toArray List.getElem?_cons_zero List.getElem?_cons_succ List.take_zero List.drop_zero List.take_succ_cons List.drop_succ_cons List.take_nil List.drop_nil beq_self_eq_true Bool.and_false Bool.false_and implies_true false_implies true_implies List.forall_mem_cons List.not_mem_nil

end Go.Ab
