/- Ab.Ref21: numbers and strings, as the reference's sum needs them. -/
import Derived.Test.YtgnlnkbkbddfaaaAbNum64
import Derived.Test.YtgnlnkbkbddfaaaAbCrcLaw
namespace Go.Ab

theorem rem32_2 (a : BitVec 32) : IntKind.u32.wrap (Int.tmod (a.toNat : Int) 2) = ((a.toNat % 2 : Nat) : Int) := by
  rw [Int.tmod_eq_emod_of_nonneg (by omega), wrapU32]; omega
theorem rem32_2n (a : BitVec 32) : Int.tmod (a.toNat : Int) 2 = ((a.toNat % 2 : Nat) : Int) := by
  rw [Int.tmod_eq_emod_of_nonneg (by omega)]; omega
theorem quo32_2 (a : BitVec 32) : IntKind.u32.wrap (Int.tdiv (a.toNat : Int) 2) = ((a >>> 1).toNat : Int) := by
  rw [Int.tdiv_eq_ediv_of_nonneg (by omega), wrapU32, BitVec.toNat_ushiftRight, Nat.shiftRight_eq_div_pow]; have := a.isLt; omega
theorem quo32_256 (x : BitVec 32) (k : Nat) : IntKind.u32.wrap (Int.tdiv ((x >>> (8 * k)).toNat : Int) 256) = ((x >>> (8 * (k + 1))).toNat : Int) := by
  rw [Int.tdiv_eq_ediv_of_nonneg (by omega), wrapU32]
  have h : (x >>> (8 * (k + 1))).toNat = (x >>> (8 * k)).toNat / 256 := by
    rw [show 8 * (k + 1) = 8 * k + 8 by omega, BitVec.shiftRight_add, BitVec.toNat_ushiftRight (x >>> (8 * k)) 8, Nat.shiftRight_eq_div_pow]
  rw [h]
  have := (x >>> (8 * k)).isLt
  omega
theorem not32 (x : BitVec 32) : IntKind.u32.wrap (4294967295 - (x.toNat : Int)) = ((BitVec.ofNat 32 4294967295 ^^^ x).toNat : Int) := by
  have h : BitVec.ofNat 32 4294967295 ^^^ x = ~~~x := by
    rw [show BitVec.ofNat 32 4294967295 = BitVec.allOnes 32 from by decide, BitVec.allOnes_xor]
  rw [h, BitVec.toNat_not, wrapU32]
  have := x.isLt
  omega
theorem lsb_mod (x : BitVec 32) : x.getLsbD 0 = decide (x.toNat % 2 = 1) := by
  rw [BitVec.getLsbD, Nat.testBit_zero]
theorem crcStep_odd {x : BitVec 32} (h : x.toNat % 2 = 1) : crcStep x = (x >>> 1) ^^^ BitVec.ofNat 32 3988292384 := by
  rw [crcStep_if, lsb_mod, decide_eq_true h]; rfl
theorem crcStep_even {x : BitVec 32} (h : ¬ x.toNat % 2 = 1) : crcStep x = x >>> 1 := by
  rw [crcStep_if, lsb_mod, decide_eq_false h, if_neg (by decide), BitVec.xor_zero]

theorem ba_loop (b : ByteArray) : ∀ k i r, b.data.size - i = k → ByteArray.toList.loop b i r = r.reverse ++ b.data.toList.drop i
  | 0, i, r, h => by
    have h0 : ¬ i < b.size := fun h1 => by have : i < b.data.size := h1; omega
    rw [ByteArray.toList.loop, if_neg h0, List.drop_eq_nil_of_le (by rw [Array.length_toList]; omega), List.append_nil]
  | k + 1, i, r, h => by
    have hi : i < b.data.size := by omega
    have hi0 : i < b.size := hi
    rw [ByteArray.toList.loop, if_pos hi0, ba_loop b k (i + 1) _ (by omega)]
    have hi' : i < b.data.toList.length := by rw [Array.length_toList]; exact hi
    rw [List.drop_eq_getElem_cons hi', List.reverse_cons, List.append_assoc]
    congr 1
    show [b.get! i] ++ _ = _
    have : b.get! i = b.data.toList[i] := by
      show b.data[i]! = _
      rw [getElem!_pos b.data i hi, Array.getElem_toList]
    rw [this]; rfl
theorem ba_toList (b : ByteArray) : b.toList = b.data.toList := by
  rw [ByteArray.toList, ba_loop b b.data.size 0 [] (by omega)]; rfl

theorem byteOf_inj : ∀ {a b : BitVec 8}, byteOf (u8 a) = byteOf (u8 b) → a = b := by
  intro a b h
  have h2 := congrArg UInt8.toNat h
  simp only [byteOf, u8, Int.toNat_natCast, UInt8.toNat_ofNat'] at h2
  have := a.isLt
  have := b.isLt
  exact BitVec.eq_of_toNat_eq (by omega)

theorem strB_inj {xs ys : List (BitVec 8)} (h : (str (bytes xs)).toList = (str (bytes ys)).toList) : xs = ys := by
  rw [ba_toList, ba_toList] at h
  simp only [str, bytes, List.map_map] at h
  have hinj : Function.Injective (byteOf ∘ u8) := fun a b h => byteOf_inj h
  exact List.map_inj_right (fun _ _ h => hinj h) |>.1 h
theorem strB_beq (xs ys : List (BitVec 8)) : ((str (bytes xs)).toList == (str (bytes ys)).toList) = (xs == ys) := by
  by_cases h : xs = ys
  · subst h; simp
  · rw [beq_eq_false_iff_ne.2 h, beq_eq_false_iff_ne]
    exact fun hh => h (strB_inj hh)

theorem bytes_all (l : List (BitVec 8)) : (bytes l).all isByte = true := by
  rw [List.all_eq_true]
  intro x hx
  obtain ⟨b, _, rfl⟩ := List.mem_map.1 hx
  have := b.isLt
  simp only [u8, isByte, decide_eq_true_eq]
  omega

end Go.Ab
