/- Ab.Lists: lists of numbers and of batches as values; what is looked for in them. -/
import Derived.Test.YtgnlnkbkbddfaaaAbNum64
namespace Go.Ab

def ints (l : List Int) : List AV := l.map fun n => .sc (.int .i64 n)
theorem ints_len (l : List Int) : (ints l).length = l.length := List.length_map ..
theorem ints_get {l : List Int} {i : Nat} (h : i < l.length) : (ints l).getD i .und = .sc (.int .i64 l[i]) := by simp [ints, h]
theorem ints_append (l m : List Int) : ints l ++ ints m = ints (l ++ m) := (List.map_append ..).symm
theorem ints_nil : ints [] = [] := rfl
theorem ints_cells (l : List Int) : ∀ x ∈ ints l, x.cells.length = 1 := fun x hx => by
  obtain ⟨b, _, rfl⟩ := List.mem_map.1 hx
  rfl
theorem ints_append1 (l : List Int) (n : Int) : ints l ++ [.sc (.int .i64 n)] = ints (l ++ [n]) := by simp [ints]
theorem ints_cell {l : List Int} {i : Nat} (h : i < l.length) : ((ints l).getD i .und).cells.length = 1 := by rw [ints_get h]; rfl
theorem ints_take (l : List Int) (n : Nat) : (ints l).take n = ints (l.take n) := (List.map_take ..).symm
theorem ints_drop (l : List Int) (n : Nat) : (ints l).drop n = ints (l.drop n) := (List.map_drop ..).symm

/-- A batch. -/
structure Bt where
  a0 : Int
  a1 : Int
  clear : Bool
  a3 : Int
  a4 : Int
  a5 : Int
  ids : List Int
  deriving DecidableEq

def Bt.av (b : Bt) : AV := .agg [.sc (.int .i64 b.a0), .sc (.int .i64 b.a1), .sc (.bool b.clear), .sc (.int .i64 b.a3), .sc (.int .i64 b.a4), .sc (.int .i64 b.a5), .lst 0 (ints b.ids)]
def bts (l : List Bt) : List AV := l.map Bt.av
theorem bts_len (l : List Bt) : (bts l).length = l.length := List.length_map ..
theorem bts_get {l : List Bt} {i : Nat} (h : i < l.length) : (bts l).getD i .und = .agg [.sc (.int .i64 (l[i]).a0), .sc (.int .i64 (l[i]).a1), .sc (.bool (l[i]).clear), .sc (.int .i64 (l[i]).a3), .sc (.int .i64 (l[i]).a4), .sc (.int .i64 (l[i]).a5), .lst 0 (ints (l[i]).ids)] := by simp [bts, Bt.av, h]
theorem bts_append (l m : List Bt) : bts l ++ bts m = bts (l ++ m) := (List.map_append ..).symm
theorem bts_nil : bts [] = [] := rfl
theorem bts_cells (l : List Bt) : ∀ x ∈ bts l, x.cells.length = 7 := fun x hx => by
  obtain ⟨b, _, rfl⟩ := List.mem_map.1 hx
  rfl
theorem bts_cell {l : List Bt} {i : Nat} (h : i < l.length) : ((bts l).getD i .und).cells.length = 7 := by rw [bts_get h]; rfl

/-- Where it is first found; -1: nowhere. -/
def idxOf {α : Type} (p : α → Bool) (l : List α) : Int := if l.any p then (l.findIdx p : Nat) else -1

theorem any_take_succ {α : Type} {p : α → Bool} {l : List α} {i : Nat} (h : i < l.length) : (l.take (i + 1)).any p = ((l.take i).any p || p l[i]) := by
  rw [List.take_add_one, List.getElem?_eq_getElem h, List.any_append]; simp

theorem idxOf_found {α : Type} {p : α → Bool} {l : List α} {i : Nat} (h : i < l.length) (h1 : (l.take i).any p = false) (h2 : p l[i] = true) : idxOf p l = i := by
  have ha : l.any p = true := List.any_eq_true.2 ⟨_, List.getElem_mem h, h2⟩
  rw [idxOf, if_pos ha]
  congr 1
  rw [List.findIdx_eq h]
  refine ⟨h2, fun j hj => ?_⟩
  rw [List.any_eq_false] at h1
  have := h1 l[j] (List.mem_take_iff_getElem.2 ⟨j, by omega, rfl⟩)
  simpa using this

theorem idxOf_none {α : Type} {p : α → Bool} {l : List α} (h : l.any p = false) : idxOf p l = -1 := by rw [idxOf, if_neg (by simp [h])]

theorem idxOf_ge {α : Type} (p : α → Bool) (l : List α) : decide (idxOf p l ≥ 0) = l.any p := by
  rw [idxOf]
  split
  · rename_i h; rw [h]; simp
  · rename_i h; simp at h ⊢; exact h

theorem hset_weak {H : Hp} {B : Nat} {x : AB} (hB : H B = none) : ∀ D b, H D = some b → hset H B x D = some b := fun D b h => by
  simp only [hset]
  split
  · rename_i hd; rw [hd, hB] at h; cases h
  · exact h

theorem hweak_set {H H' : Hp} {B : Nat} {x : AB} (h : ∀ D b, H D = some b → H' D = some b) : ∀ D b, hset H B x D = some b → hset H' B x D = some b := fun D b hD => by
  simp only [hset] at hD ⊢
  split
  · rename_i hd; rwa [if_pos hd] at hD
  · rename_i hd; rw [if_neg hd] at hD; exact h D b hD

attribute [go_sem] ints_len ints_append ints_nil ints_append1 ints_take ints_drop bts_len bts_append bts_nil

end Go.Ab
