/- Ab.Heap: blocks by list: what is kept of them. -/
import Derived.Test.YtgnlnkbkbddfaaaAbPanic
import Derived.Test.YtgnlnkbkbddfaaaAbLists
namespace Go.Ab

/-- But for these blocks, what was known is known. -/
def Fr (ks : List Nat) (H0 H' : Hp) : Prop := ∀ D b, D ∉ ks → H0 D = some b → H' D = some b
def hvL (H' : Hp) : List (Nat × AB) → Prop
  | [] => True
  | (B, b) :: l => H' B = some b ∧ hvL H' l

theorem Fr_refl (ks : List Nat) (H : Hp) : Fr ks H H := fun _ _ _ h => h
theorem Fr_old {ks : List Nat} {H0 H' : Hp} {B : Nat} {x : AB} (hB : B ∈ ks) (h : Fr ks H0 H') : Fr ks H0 (hset H' B x) := fun D b hk hD => by
  simp only [hset]
  split
  · rename_i he; exact absurd (he ▸ hB) hk
  · exact h D b hk hD
theorem Fr_new {ks : List Nat} {H0 H' : Hp} {B : Nat} {x : AB} (hB : H0 B = none) (h : Fr ks H0 H') : Fr ks H0 (hset H' B x) := fun D b hk hD => by
  simp only [hset]
  split
  · rename_i he; subst he; rw [hB] at hD; cases hD
  · exact h D b hk hD

theorem Fr_trans {ks : List Nat} {H0 H1 H2 : Hp} (h : Fr ks H0 H1) (h' : Fr ks H1 H2) : Fr ks H0 H2 := fun D b hk hD => h' D b hk (h D b hk hD)

theorem Fr_weak {H0 H' : Hp} (h : Fr [] H0 H') : ∀ D b, H0 D = some b → H' D = some b := fun D b => h D b (by simp)

theorem Fr_drop {H H' : Hp} {B : Nat} {x : AB} (hB : H B = none) (h : Fr [B] (hset H B x) H') : ∀ D b, H D = some b → H' D = some b := fun D b hD => by
  have hne : D ≠ B := fun hh => by rw [hh, hB] at hD; cases hD
  exact h D b (by simpa using hne) (by simp only [hset, if_neg hne]; exact hD)

theorem hsets_inv : ∀ {hl : List (Nat × AB)} {H0 : Hp} {D : Nat} {b : AB}, hsets H0 hl D = some b → (D ∉ hl.map (·.1) ∧ H0 D = some b) ∨ (D, b) ∈ hl
  | [], H0, D, b, h => .inl ⟨by simp, h⟩
  | (B, x) :: hl, H0, D, b, h => by
    simp only [hsets] at h
    rcases hsets_inv h with ⟨h1, h2⟩ | h1
    · simp only [hset] at h2
      split at h2
      · rename_i hd; subst hd; cases h2; exact .inr (by simp)
      · rename_i hd; exact .inl ⟨by simp only [List.map_cons, List.mem_cons, not_or]; exact ⟨hd, h1⟩, h2⟩
    · exact .inr (by simp [h1])

theorem hvL_mem {H' : Hp} : ∀ {hl : List (Nat × AB)}, hvL H' hl → ∀ {D : Nat} {b : AB}, (D, b) ∈ hl → H' D = some b
  | (B, x) :: hl, h, D, b, hm => by
    rcases List.mem_cons.1 hm with hm | hm
    · cases hm; exact h.1
    · exact hvL_mem h.2 hm

theorem hweakL {H0 H' : Hp} {hl : List (Nat × AB)} (hf : Fr (hl.map (·.1)) H0 H') (hv : hvL H' hl) : ∀ D b, hsets H0 hl D = some b → H' D = some b := fun D b h => by
  rcases hsets_inv h with ⟨h1, h2⟩ | h1
  · exact hf D b h1 h2
  · exact hvL_mem hv h1

theorem hset_none {H : Hp} {B D : Nat} {x : AB} (h : hset H B x D = none) : H D = none := by
  simp only [hset] at h
  split at h
  · cases h
  · exact h

theorem ite_none {p : Prop} [Decidable p] {x : AB} {y : Option AB} (h : (if p then some x else y) = none) : y = none := by
  split at h
  · cases h
  · exact h

theorem hset_get (H : Hp) (B : Nat) (x : AB) : hset H B x B = some x := by simp [hset]

/-- Less is told of the block that was made last. -/
theorem AWp_top {P : Program} {C : Cx} {c : Code} {Q : Exit → Env → Hp → Prop} {e : Env} {H : Hp} {B : Nat} {cs : List AV} (cs' : List AV) (hw : wkCells cs cs') (h : AWp P C c Q e (hset H B (.cells cs'))) : AWp P C c Q e (hset H B (.cells cs)) :=
  AWp_cells (hset_get _ _ _) hw (by rw [hset_over]; exact h)

attribute [go_sem] hvL.eq_1 hvL.eq_2

end Go.Ab
