/- The law StreamBursts holds for every input: a stream's bytes, of any batches that may be, of which some bits within 32 in a row are turned, one at least, are none's. No condition. -/
import Derived.Test.YtgnlnkbkbddfaaaRows
import Derived.Test.YtgnlnkbkbddfaaaAbWBursts
import Derived.Test.YtgnlnkbkbddfaaaAbArgRows
import Derived.WalkKit
import Derived.ProofKit
import Derived.OpenShut
import Derived.ShutString
import Derived.ChangeOld
import Derived.Below
import Derived.SizedLaws
import Derived.Carry
namespace Go.Proofs.Ytgnlnkbkbddfaaa
namespace streamBursts
open Go.ChangeShapes Go.WideShapes Go.ChangeAt Go.RowKit Go.Ab
set_option linter.unusedVariables false
theorem own : ownKnob Try.prog.godebug = none := by kernel_rfl
theorem laidOut : laidOutB Try.prog = true := by kernel_rfl
set_option maxRecDepth 100000 in
theorem lifted (os : Os) (started : os.Started) (H : Type) (enc : TypeId × Value → H) :
    ReturnsInHanded {} Try.checked os 4 .any (Rows.streamBurstsSpec.pre6 enc Try.prog Try.f4 Rows.streamBurstsRow.domain false) (Rows.streamBurstsSpec.post enc Try.prog Try.f4 false true false false) := by
  refine returnsInHanded_of_change_sized (C := Try.checked) own started (by kernel_rfl) Try.func4
    (ChangeSpec.witness6 (enc := enc) (C := Try.checked) false ⟨#[], #[.slice none 0 0, .int .u32 0, .int .u32 0], []⟩ 8 (by kernel_rfl) (by kernel_rfl) (by kernel_rfl) (by kernel_rfl)) ?_
  intro W base args ds gs before hval0 hW hcnd hsz0 _
  have hval : ∀ (j : Nat) t v, Try.f4.params[j]? = some t → args[j]? = some v → Value.okWide Try.prog W .any base t v := hval0
  have hW' := hW
  obtain ⟨p, q, hA0, hV, rfl, hfz, hnd⟩ := hW
  have hA : DataW.TrodAll enc Try.prog W 0 (fun _ => true) true Try.f4.params.toList args.toList ds p := hA0
  rw [Try.params4] at hA hval
  obtain ⟨v0, vs0, d0, ds0, p0, q0, hargs, rfl, rfl, h0, r0⟩ := trodAll_cons hA
  obtain ⟨v1, vs1, d1, ds1, p1, q1, rfl, rfl, rfl, h1, r1⟩ := trodAll_cons r0
  obtain ⟨v2, vs2, d2, ds2, p2, q2, rfl, rfl, rfl, h2, r2⟩ := trodAll_cons r1
  obtain ⟨rfl, rfl, rfl⟩ := trodAll_nil r2
  obtain rfl : args = #[v0, v1, v2] := by cases args; simp_all
  obtain ⟨rfl, rfl⟩ := trodVars_none hV
  obtain ⟨a0, len0, cap0, rfl⟩ := okWide_slice Try.underlying25 (hval 0 25 v0 rfl rfl)
  have k0 := h0
  have lt0 : ∀ x ∈ p0, x.block < W.heap.size := by obtain ⟨m, hm⟩ := k0; exact DataW.trod_lt m _ _ _ hm
  obtain ⟨x0, s0, e0⟩ := rep_one (W := W) tab_ok 4 (by kernel_rfl) h0 rfl
  obtain ⟨l, hl, hx, hids⟩ := shp_bts s0
  cases hx
  obtain ⟨a1, rfl, rfl, rfl, w1⟩ := open_int Try.underlying31 (hval 1 31 v1 rfl rfl) h1
  obtain ⟨a2, rfl, rfl, rfl, w2⟩ := open_int Try.underlying31 (hval 2 31 v2 rfl rfl) h2
  obtain ⟨b1, rfl⟩ := u32_of_wf w1
  obtain ⟨b2, rfl⟩ := u32_of_wf w2
  clear hA0 hval0 hsz0
  refine (acalls_calls (xs := [.lst 0 (bts l), .sc (.int .u32 b1.toNat), .sc (.int .u32 b2.toNat)]) (fun K hK => bursts_spec _ K l b1 b2 (by unfold maxLen at hl; omega) (fun b hb => by have := hids b hb; unfold maxLen at this; omega) hK) rfl ?_).mono fun e W' ⟨he, bel⟩ => ?_
  · intro i x v hx hv
    match i, hx, hv with
    | 0, hx, hv => cases hx; cases hv; exact e0
    | 1, hx, hv => cases hx; cases hv; exact .sc _ rfl
    | 2, hx, hv => cases hx; cases hv; exact .sc _ rfl
    | i + 3, hx, hv => simp at hx
  subst he
  exact ⟨_, rfl, _, _, _, [], _, [], hW', trodAll_mk1 (shut_bool Try.underlying4 _), (trodAll_cons_mk (Below.trod laidOut (by kernel_rfl) (of_decide_eq_true (by kernel_rfl)) k0 bel lt0) (trodAll_cons_mk (shut_int Try.underlying31 w1) (trodAll_cons_mk (shut_int Try.underlying31 w2) trodAll_mk0))), rfl, bel.frame _, fun h => by cases h⟩
theorem over : Rows.streamBurstsRow.holds Try.pinned (OpenSpec.ofChange Rows.streamBurstsSpec) :=
  OpenClaim.holds_of_wide 4 Try.f4 rfl rfl rfl rfl rfl rfl rfl ⟨rfl, rfl, rfl, rfl, rfl⟩ rfl rfl rfl rfl rfl (by kernel_rfl) Try.func4 (by kernel_rfl)
    (of_decide_eq_true (by kernel_rfl)) (by unfold Func.isWrapper; first | (rw [if_pos (by decide +kernel)]; kernel_rfl) | (rw [if_neg (by decide +kernel)]; exact ⟨rfl, rfl⟩))
    (fun os started H enc _ => lifted os started H enc)
theorem proved : Rows.StreamBurstsSaid := over
#print axioms proved
end streamBursts
/-- The row, under a short name, for the claim. -/
theorem streamBursts_holds : Rows.StreamBurstsSaid := streamBursts.proved
end Go.Proofs.Ytgnlnkbkbddfaaa
