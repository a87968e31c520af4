/- Ab.Crc: the sum of 32 bits, as plain functions. -/

namespace Go.Ab

def crcStep (x : BitVec 32) : BitVec 32 := (x >>> 1) ^^^ (BitVec.ofNat 32 3988292384 * (x &&& BitVec.ofNat 32 1))
def crcBits : Nat → BitVec 32 → BitVec 32
  | 0, x => x
  | k + 1, x => crcStep (crcBits k x)
def crcByte (x : BitVec 32) (b : BitVec 8) : BitVec 32 := crcBits 8 (x ^^^ b.setWidth 32)
def crcRun (x : BitVec 32) (l : List (BitVec 8)) : BitVec 32 := l.foldl crcByte x
def crcOf (l : List (BitVec 8)) : BitVec 32 := BitVec.ofNat 32 4294967295 ^^^ crcRun (BitVec.ofNat 32 4294967295) l

/-- Four bytes, the least first. -/
def le32 (x : BitVec 32) (k : Nat) : List (BitVec 8) := (List.range k).map fun i => (x >>> (8 * i)).setWidth 8
def sealed (l : List (BitVec 8)) : List (BitVec 8) := l ++ le32 (crcOf l) 4

def openOf (l : List (BitVec 8)) : List (BitVec 8) × Int :=
  if l.length < 4 then ([], 2) else if sealed (l.take (l.length - 4)) = l then (l.take (l.length - 4), 0) else ([], 10)

theorem crcRun_take_succ (x : BitVec 32) (l : List (BitVec 8)) {i : Nat} (h : i < l.length) : crcRun x (l.take (i + 1)) = crcByte (crcRun x (l.take i)) l[i] := by
  unfold crcRun
  rw [List.take_add_one, List.getElem?_eq_getElem h, List.foldl_append]
  rfl

theorem le32_succ (x : BitVec 32) (k : Nat) : le32 x (k + 1) = le32 x k ++ [(x >>> (8 * k)).setWidth 8] := by
  simp [le32, List.range_succ]

theorem le32_length (x : BitVec 32) (k : Nat) : (le32 x k).length = k := by simp [le32]

theorem sealed_length (l : List (BitVec 8)) : (sealed l).length = l.length + 4 := by simp [sealed, le32_length]

end Go.Ab
