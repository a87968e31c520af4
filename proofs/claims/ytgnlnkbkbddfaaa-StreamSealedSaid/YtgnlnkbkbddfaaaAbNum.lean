/- Ab.Num: numbers of 8 and 32 bits, as bit vectors. -/
import Derived.Test.YtgnlnkbkbddfaaaAbWalk
namespace Go.Ab

theorem wrapU32 (n : Int) : IntKind.u32.wrap n = n % 4294967296 := by simp [IntKind.wrap, IntKind.bits, IntKind.signed]
theorem wrapU8 (n : Int) : IntKind.u8.wrap n = n % 256 := by simp [IntKind.wrap, IntKind.bits, IntKind.signed]
theorem wrapU64 (n : Int) : IntKind.u64.wrap n = n % 18446744073709551616 := by simp [IntKind.wrap, IntKind.bits, IntKind.signed]

theorem w32_32 (a : BitVec 32) : IntKind.u32.wrap a.toNat = a.toNat := by rw [wrapU32]; have := a.isLt; omega
theorem w32_8 (a : BitVec 8) : IntKind.u32.wrap a.toNat = (a.setWidth 32).toNat := by rw [wrapU32, BitVec.toNat_setWidth]; have := a.isLt; omega
theorem w8_32 (a : BitVec 32) : IntKind.u8.wrap a.toNat = (a.setWidth 8).toNat := by rw [wrapU8, BitVec.toNat_setWidth]; omega
theorem w8_8 (a : BitVec 8) : IntKind.u8.wrap a.toNat = a.toNat := by rw [wrapU8]; have := a.isLt; omega

theorem ofInt32 (a : BitVec 32) : BitVec.ofInt 32 a.toNat = a := by simp
theorem ofIntLit (w n : Nat) : BitVec.ofInt w (no_index (OfNat.ofNat n : Int)) = BitVec.ofNat w n := by
  show BitVec.ofInt w (Int.ofNat n) = _
  exact BitVec.ofInt_natCast ..

theorem bits_xor32 (a b : BitVec 32) : bits .xor .u32 a.toNat b.toNat = some ((a ^^^ b).toNat : Int) := by
  show some (IntKind.u32.wrap ((BitVec.ofInt 32 a.toNat ^^^ BitVec.ofInt 32 b.toNat).toNat)) = _
  rw [ofInt32, ofInt32, w32_32]
theorem bits_and32 (a b : BitVec 32) : bits .and .u32 a.toNat b.toNat = some ((a &&& b).toNat : Int) := by
  show some (IntKind.u32.wrap ((BitVec.ofInt 32 a.toNat &&& BitVec.ofInt 32 b.toNat).toNat)) = _
  rw [ofInt32, ofInt32, w32_32]
theorem bits_and32l (a : BitVec 32) (n : Nat) : bits .and .u32 a.toNat (no_index (OfNat.ofNat n : Int)) = some ((a &&& BitVec.ofNat 32 n).toNat : Int) := by
  show some (IntKind.u32.wrap ((BitVec.ofInt 32 a.toNat &&& BitVec.ofInt 32 (OfNat.ofNat n)).toNat)) = _
  rw [ofInt32, ofIntLit, w32_32]
theorem bits_xor32l (a : BitVec 32) (n : Nat) : bits .xor .u32 a.toNat (no_index (OfNat.ofNat n : Int)) = some ((a ^^^ BitVec.ofNat 32 n).toNat : Int) := by
  show some (IntKind.u32.wrap ((BitVec.ofInt 32 a.toNat ^^^ BitVec.ofInt 32 (OfNat.ofNat n)).toNat)) = _
  rw [ofInt32, ofIntLit, w32_32]
theorem bits_lxor32 (a : BitVec 32) (n : Nat) : bits .xor .u32 (no_index (OfNat.ofNat n : Int)) a.toNat = some ((BitVec.ofNat 32 n ^^^ a).toNat : Int) := by
  show some (IntKind.u32.wrap ((BitVec.ofInt 32 (OfNat.ofNat n) ^^^ BitVec.ofInt 32 a.toNat).toNat)) = _
  rw [ofInt32, ofIntLit, w32_32]

theorem mul32 (a b : BitVec 32) : IntKind.u32.wrap ((a.toNat : Int) * b.toNat) = ((a * b).toNat : Int) := by
  rw [wrapU32, BitVec.toNat_mul, ← Int.natCast_mul]
  exact (Int.natCast_emod _ _).symm
theorem lmul32 (n : Nat) (b : BitVec 32) : IntKind.u32.wrap ((no_index (OfNat.ofNat n : Int)) * b.toNat) = ((BitVec.ofNat 32 n * b).toNat : Int) := by
  rw [wrapU32, BitVec.toNat_mul, BitVec.toNat_ofNat]
  show ((n : Int) * b.toNat) % 4294967296 = _
  rw [← Int.natCast_mul]
  refine Eq.trans (Int.natCast_emod (n * b.toNat) 4294967296).symm ?_
  congr 1
  exact (Nat.mod_mul_mod ..).symm

theorem shr32 (a : BitVec 32) (n : Nat) : Int.fdiv a.toNat (2 ^ min n 32) = ((a >>> n).toNat : Int) := by
  rw [BitVec.toNat_ushiftRight, Nat.shiftRight_eq_div_pow]
  rw [show ((2 : Int) ^ min n 32) = ((2 ^ min n 32 : Nat) : Int) from (Int.natCast_pow 2 _).symm]
  have h : Int.fdiv (a.toNat : Int) ((2 ^ min n 32 : Nat) : Int) = ((a.toNat / 2 ^ min n 32 : Nat) : Int) := by
    rw [Int.fdiv_eq_ediv_of_nonneg _ (Int.natCast_nonneg _)]; exact (Int.natCast_ediv _ _).symm
  rw [h]
  have ha := a.isLt
  have : a.toNat / 2 ^ min n 32 = a.toNat / 2 ^ n := by
    rcases Nat.le_total n 32 with hn | hn
    · rw [Nat.min_eq_left hn]
    · rw [Nat.min_eq_right hn, Nat.div_eq_of_lt (by omega), Nat.div_eq_of_lt]
      exact Nat.lt_of_lt_of_le ha (Nat.pow_le_pow_right (by omega) hn)
  rw [this]

theorem notL32 : (if IntKind.u32.signed = true then (-1 : Int) else IntKind.u32.max) = 4294967295 := rfl

theorem ex_some {α : Type} {a : α} {p : α → Prop} : (∃ b, some a = some b ∧ p b) ↔ p a := ⟨fun ⟨_, h, hp⟩ => by cases h; exact hp, fun h => ⟨a, rfl, h⟩⟩

theorem hset_hset (H : Hp) (B : Nat) (x y : AB) : hset (hset H B x) B y = hset H B y := by
  funext D
  simp only [hset]
  split <;> rfl

theorem bytes_append1 (l : List (BitVec 8)) (b : BitVec 8) : bytes l ++ [.sc (.int .u8 b.toNat)] = bytes (l ++ [b]) := by simp [bytes, u8]

theorem bytes_cell {l : List (BitVec 8)} {i : Nat} (h : i < l.length) : ((bytes l).getD i .und).cells.length = 1 := by rw [bytes_get h]; rfl
theorem toNat_subLit (m k : Nat) : ((m : Int) - (no_index (OfNat.ofNat k : Int))).toNat = m - k := by
  show ((m : Int) - ((k : Nat) : Int)).toNat = _
  omega

theorem abin_eq_pp {sz bz : Nat} {z : List Value} {t : TypeId} {a : Addr} : abin .eql (some ⟨sz, bz, .ptr t, z⟩) (.sc (.pointer (some a))) (.sc (.pointer none)) = some (True, .bool false) := by simp [abin, veq]
theorem abin_ne_pp {sz bz : Nat} {z : List Value} {t : TypeId} {a : Addr} : abin .neq (some ⟨sz, bz, .ptr t, z⟩) (.sc (.pointer (some a))) (.sc (.pointer none)) = some (True, .bool true) := by simp [abin, veq]
theorem abin_eq_pn {sz bz : Nat} {z : List Value} {t : TypeId} : abin .eql (some ⟨sz, bz, .ptr t, z⟩) (.sc (.pointer none)) (.sc (.pointer none)) = some (True, .bool true) := by simp [abin, veq]
theorem abin_ne_pn {sz bz : Nat} {z : List Value} {t : TypeId} : abin .neq (some ⟨sz, bz, .ptr t, z⟩) (.sc (.pointer none)) (.sc (.pointer none)) = some (True, .bool false) := by simp [abin, veq]
theorem abin_eq_np {sz bz : Nat} {z : List Value} {t : TypeId} {a : Addr} : abin .eql (some ⟨sz, bz, .ptr t, z⟩) (.sc (.pointer none)) (.sc (.pointer (some a))) = some (True, .bool false) := by simp [abin, veq]
theorem abin_ne_np {sz bz : Nat} {z : List Value} {t : TypeId} {a : Addr} : abin .neq (some ⟨sz, bz, .ptr t, z⟩) (.sc (.pointer none)) (.sc (.pointer (some a))) = some (True, .bool true) := by simp [abin, veq]
theorem abin_eq_mm {sz bz : Nat} {z : List Value} {t u : TypeId} {r : Nat} : abin .eql (some ⟨sz, bz, .map t u, z⟩) (.sc (.map (some r))) (.sc (.map none)) = some (True, .bool false) := by simp [abin, veq]
theorem abin_ne_mm {sz bz : Nat} {z : List Value} {t u : TypeId} {r : Nat} : abin .neq (some ⟨sz, bz, .map t u, z⟩) (.sc (.map (some r))) (.sc (.map none)) = some (True, .bool true) := by simp [abin, veq]
theorem abin_eq_mn {sz bz : Nat} {z : List Value} {t u : TypeId} : abin .eql (some ⟨sz, bz, .map t u, z⟩) (.sc (.map none)) (.sc (.map none)) = some (True, .bool true) := by simp [abin, veq]
theorem abin_ne_mn {sz bz : Nat} {z : List Value} {t u : TypeId} : abin .neq (some ⟨sz, bz, .map t u, z⟩) (.sc (.map none)) (.sc (.map none)) = some (True, .bool false) := by simp [abin, veq]
theorem abin_eq_ff {sz bz : Nat} {z : List Value} {f : Fn} {a b : Array Value} : abin .eql (some ⟨sz, bz, .func, z⟩) (.sc (.func f a b)) (.sc (.nilFunc)) = some (True, .bool false) := by simp [abin, veq]
theorem abin_ne_ff {sz bz : Nat} {z : List Value} {f : Fn} {a b : Array Value} : abin .neq (some ⟨sz, bz, .func, z⟩) (.sc (.func f a b)) (.sc (.nilFunc)) = some (True, .bool true) := by simp [abin, veq]
theorem abin_eq_fn {sz bz : Nat} {z : List Value}  : abin .eql (some ⟨sz, bz, .func, z⟩) (.sc (.nilFunc)) (.sc (.nilFunc)) = some (True, .bool true) := by simp [abin, veq]
theorem abin_ne_fn {sz bz : Nat} {z : List Value}  : abin .neq (some ⟨sz, bz, .func, z⟩) (.sc (.nilFunc)) (.sc (.nilFunc)) = some (True, .bool false) := by simp [abin, veq]
theorem abin_eq_ii {sz bz : Nat} {z : List Value} {t : TypeId} {v : Value} : abin .eql (some ⟨sz, bz, .iface, z⟩) (.sc (.iface t v)) (.sc (.nilIface)) = some (True, .bool false) := by simp [abin, veq]
theorem abin_ne_ii {sz bz : Nat} {z : List Value} {t : TypeId} {v : Value} : abin .neq (some ⟨sz, bz, .iface, z⟩) (.sc (.iface t v)) (.sc (.nilIface)) = some (True, .bool true) := by simp [abin, veq]
theorem abin_eq_bb {sz bz : Nat} {z : List Value} {a b : Bool} : abin .eql (some ⟨sz, bz, .bool, z⟩) (.sc (.bool a)) (.sc (.bool b)) = some (True, .bool (a == b)) := by simp [abin, veq]
theorem abin_ne_bb {sz bz : Nat} {z : List Value} {a b : Bool} : abin .neq (some ⟨sz, bz, .bool, z⟩) (.sc (.bool a)) (.sc (.bool b)) = some (True, .bool (!(a == b))) := by simp [abin, veq]

attribute [go_sem] abin_eq_pp abin_ne_pp abin_eq_pn abin_ne_pn abin_eq_np abin_ne_np abin_eq_mm abin_ne_mm abin_eq_mn abin_ne_mn abin_eq_ff abin_ne_ff abin_eq_fn abin_ne_fn abin_eq_ii abin_ne_ii abin_eq_bb abin_ne_bb

theorem beq_t (b : Bool) : (b == true) = b := by cases b <;> rfl
theorem beq_f (b : Bool) : (b == false) = !b := by cases b <;> rfl
theorem cond_or (c b : Bool) : (bif c then true else b) = (c || b) := by cases c <;> rfl
theorem cond_and (c b : Bool) : (bif c then b else false) = (c && b) := by cases c <;> rfl

theorem take_drop_all {α : Type} (l : List α) (k : Nat) : (l.drop k).take (l.length - k) = l.drop k := List.take_of_length_le (by rw [List.length_drop]; exact Nat.le_refl _)
theorem hset_same {H : Hp} {B : Nat} {b : AB} (h : H B = some b) : hset H B b = H := by
  funext D
  simp only [hset]
  split
  · rename_i hd; rw [hd, h]
  · rfl

theorem rng0 : List.range' 0 0 = [] := by decide
theorem rng1 : List.range' 0 1 = [0] := by decide
theorem rng2 : List.range' 0 2 = [0, 1] := by decide
theorem rng3 : List.range' 0 3 = [0, 1, 2] := by decide
theorem rng4 : List.range' 0 4 = [0, 1, 2, 3] := by decide
theorem rng5 : List.range' 0 5 = [0, 1, 2, 3, 4] := by decide
theorem rng6 : List.range' 0 6 = [0, 1, 2, 3, 4, 5] := by decide
theorem rng7 : List.range' 0 7 = [0, 1, 2, 3, 4, 5, 6] := by decide
theorem rng8 : List.range' 0 8 = [0, 1, 2, 3, 4, 5, 6, 7] := by decide
attribute [go_sem] rng0 rng1 rng2 rng3 rng4 rng5 rng6 rng7 rng8

attribute [go_sem] Int.natCast_nonneg Int.toNat_sub take_drop_all beq_t beq_f cond_or cond_and Bool.not_not hset_hset imp_self and_assoc Int.sub_zero toNat_subLit bytes_append1 ofInt32 ofIntLit w32_32 w32_8 w8_32 w8_8 bits_xor32 bits_and32 bits_and32l bits_xor32l bits_lxor32 mul32 lmul32 shr32 notL32 ex_some bytes_nil bytes_append bytes_len bytes_take bytes_drop

end Go.Ab
