/- Ab.Walk: what walks lean on: less is known of a slot; branches, loops, ends; bytes and numbers as values. -/
import Derived.Test.YtgnlnkbkbddfaaaAbBaseD
import Derived.Test.YtgnlnkbkbddfaaaAbTab
namespace Go.Ab

def unK : UnOp → Option (Bool × AV) → Option (Prop × AV)
  | .not, some (b, .sc (.bool v)) => some (b = true, .sc (.bool !v))
  | .neg, some (b, .sc (.int k n)) => some (b = true, .sc (.int k (k.wrap (0 - n))))
  | .xor, some (b, .sc (.int k n)) => (bits .xor k (if k.signed then -1 else k.max) n).map fun m => (b = true, .sc (.int k m))
  | _, _ => none

theorem apure_unOp {T : Types} {e : Env} {H : Hp} (op : UnOp) (t : TypeId) (x : Operand) : apure T (.unOp op t x) e H = unK op (arg e x) := by
  simp only [apure, unK]
  cases op <;> rfl

attribute [go_sem] apure_unOp unK.eq_1 unK.eq_2 unK.eq_3

def wkL (e : Env) : List (Nat × AV) → Prop
  | [] => True
  | (t, x) :: l => e t = x ∧ wkL e l

theorem wk_ofL {e : Env} {H H' : Hp} (hh : ∀ B b, H' B = some b → H B = some b) : ∀ {l : List (Nat × AV)}, wkL e l → Wk e H (ofL l) H' := by
  intro l h
  refine ⟨fun t ht => ?_, hh⟩
  induction l with
  | nil => exact absurd rfl ht
  | cons p l ih =>
    obtain ⟨s, x⟩ := p
    obtain ⟨h1, h2⟩ := h
    simp only [ofL] at ht ⊢
    split
    · rename_i hts; rw [hts, h1]
    · rename_i hts; rw [if_neg hts] at ht; exact ih h2 ht

attribute [go_sem] wkL.eq_1 wkL.eq_2

section
variable {P : Program} {T : Types} {C : Cx} {Q : Exit → Env → Hp → Prop} {e : Env} {H : Hp}

theorem AWp_fzE {c : Code} : ∀ {l : List Operand} {e : Env}, AWp P C c Q (fzE e l) H → AWp P C c Q e H
  | [], _, h => h
  | .tmp t :: l, e, h => by
    simp only [fzE] at h
    have := AWp_fzE h
    generalize hx : e t = x at this
    unfold fz1 at this
    split at this <;> first | exact this | exact AWp_freeze hx this
  | .const _ :: l, e, h => AWp_fzE (l := l) (by simpa only [fzE] using h)
  | .func _ :: l, e, h => AWp_fzE (l := l) (by simpa only [fzE] using h)
  | .global _ :: l, e, h => AWp_fzE (l := l) (by simpa only [fzE] using h)

/-- A function, from its arguments on. -/
theorem ACalls_fn (hT : TOk P T) {f : FuncId} {fn : Func} {c : Code} {xs : List AV} {H : Hp} {K : AV → Hp → Prop} (hf : P.funcs[f]? = some fn) (nt : Nat) (rs : List ResultVar) (hb : fn.body = some c) (hnt : fn.ntmps = nt) (hrs : fn.results.toList = rs)
    (hn : (fn.name == "runtime.NumGoroutine") = false) (h : ∀ d, AWp P ⟨d + 1, [], nt⟩ c (retQ T rs K) (ofL (argL 0 xs)) H) : ACalls P f xs H K := by
  subst hnt hrs
  exact ACalls_body hT hf hb hn h

/-- What is handed back. -/
def retK (H : Hp) (K : AV → Hp → Prop) : Option (Prop × AV) → Prop
  | some (p, x) => p ∧ K x H
  | none => False

theorem retQ_mk {rs : List ResultVar} {K : AV → Hp → Prop} {ex : Exit} {e : Env} {H : Hp} (H' : Hp) (hh : ∀ B b, H' B = some b → H B = some b) (hex : ex = .normal ∨ ex = .ret) (h : retK H' K (ares T rs e H)) : retQ T rs K ex e H := by
  unfold retK at h
  split at h
  · rename_i p x hq
    exact ⟨hex, p, x, H', hq, h.1, hh, h.2⟩
  · exact h.elim

theorem retQ_ret {rs : List ResultVar} {K : AV → Hp → Prop} {e : Env} {H : Hp} (h : retK H K (ares T rs e H)) : retQ T rs K .ret e H := retQ_mk H (fun _ _ h => h) (.inr rfl) h
theorem retQ_normal {rs : List ResultVar} {K : AV → Hp → Prop} {e : Env} {H : Hp} (h : retK H K (ares T rs e H)) : retQ T rs K .normal e H := retQ_mk H (fun _ _ h => h) (.inl rfl) h

def condK : Option (Bool × AV) → (Bool → Prop) → Prop
  | some (b, .sc (.bool r)), k => b = true ∧ k r
  | _, _ => False

theorem AWp_if {c : Operand} {x y : Code} (h : ∀ k : Bool → Prop, (∀ b, (b = true → AWp P C x Q e H) → (b = false → AWp P C y Q e H) → k b) → condK (arg e c) k) : AWp P C (.cond c x y) Q e H := by
  have := h _ fun b h1 h2 => (⟨h1, h2⟩ : (b = true → AWp P C x Q e H) ∧ (b = false → AWp P C y Q e H))
  unfold condK at this
  split at this
  · rename_i b r hc
    obtain ⟨rfl, h1, h2⟩ := this
    exact AWp_cond r hc h1 h2
  · exact this.elim

/-- A loop, from a state on that keeps what is said of it. -/
theorem AWp_loop_ind {c : Code} {ι : Type} (E : ι → List (Nat × AV)) (Hh : ι → Hp) (I : ι → Prop) (dec : ι → Nat) (s0 : ι) (hI : I s0) (hH : ∀ B b, Hh s0 B = some b → H B = some b) (hw : wkL e (E s0))
    (step : ∀ s, I s → ∀ L : Env → Hp → Prop, (∀ s' e' H', I s' → dec s' < dec s → (∀ B b, Hh s' B = some b → H' B = some b) → wkL e' (E s') → L e' H') → AWp P C c (thenQ L Q) (ofL (E s)) (Hh s)) : AWp P C (.loop c) Q e H := by
  refine AWp_loop (ALoop.weak (wk_ofL hH hw) ?_)
  have : ∀ n s, dec s = n → I s → ALoop P C c Q (ofL (E s)) (Hh s) := by
    intro n
    induction n using Nat.strongRecOn with
    | _ n ih =>
      intro s hn hs
      refine ALoop_step (step s hs _ fun s' e' H' h1 h2 h3 h4 => ?_)
      exact ALoop.weak (wk_ofL h3 h4) (ih (dec s') (by omega) s' rfl h1)
  exact this _ s0 rfl hI

end

attribute [go_sem] List.contains_cons Bool.or_false Bool.false_or Bool.or_true Bool.true_or Int.toNat_natCast
attribute [go_sem] retK.eq_1 retK.eq_2 condK.eq_1 condK.eq_2 retQ_ret

theorem gcall_of {p q : AV → Prop} (x : AV) (h1 : p x) (h2 : q x) : ∃ x, p x ∧ q x := ⟨x, h1, h2⟩

def i64 (n : Int) : AV := .sc (.int .i64 n)
def u8 (b : BitVec 8) : AV := .sc (.int .u8 b.toNat)
def u32 (b : BitVec 32) : AV := .sc (.int .u32 b.toNat)
def bytes (l : List (BitVec 8)) : List AV := l.map u8

theorem bytes_len (l : List (BitVec 8)) : (bytes l).length = l.length := List.length_map ..
theorem bytes_get {l : List (BitVec 8)} {i : Nat} (h : i < l.length) : (bytes l).getD i .und = .sc (.int .u8 (l[i]).toNat) := by
  simp [bytes, u8, h]
theorem bytes_take (l : List (BitVec 8)) (n : Nat) : (bytes l).take n = bytes (l.take n) := (List.map_take ..).symm
theorem bytes_drop (l : List (BitVec 8)) (n : Nat) : (bytes l).drop n = bytes (l.drop n) := (List.map_drop ..).symm
theorem bytes_append (l m : List (BitVec 8)) : bytes l ++ bytes m = bytes (l ++ m) := (List.map_append ..).symm
theorem bytes_cons (b : BitVec 8) (l : List (BitVec 8)) : AV.sc (.int .u8 b.toNat) :: bytes l = bytes (b :: l) := rfl
theorem bytes_nil : bytes [] = [] := rfl
theorem bytes_cells (l : List (BitVec 8)) : ∀ x ∈ bytes l, x.cells.length = 1 := fun x hx => by
  obtain ⟨b, _, rfl⟩ := List.mem_map.1 hx
  rfl

theorem wrap64 {x : Int} (h1 : -9223372036854775808 ≤ x) (h2 : x < 9223372036854775808) : IntKind.i64.wrap x = x := by
  simp [IntKind.wrap, IntKind.bits, IntKind.signed]
  omega

end Go.Ab
