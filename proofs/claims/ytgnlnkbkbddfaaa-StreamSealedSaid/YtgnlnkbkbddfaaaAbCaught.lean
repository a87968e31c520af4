/- Ab.Caught: what catches a stream's panic. -/
import Derived.Test.YtgnlnkbkbddfaaaProg
import Derived.WalkKit
import Derived.Defers
import Derived.Recover
import Derived.KernelRfl
namespace Go.Ab
open Go.Proofs

theorem caught_idle (p : Addr) (w : World) :
    CallsD Try.prog 137 #[.pointer (some p)] .returning w fun e u' w' => e = .returned (.tuple #[]) ∧ u' = .returning ∧ w' = w := by
  refine callsD_of_wpS Try.func137 rfl fun c₀ cs hu => ?_
  apply wpS_seq
  apply wpS_region
  simp [wpOpsS, go_sem, recoverD, hu, Try.ntmps137, Exit.thenS]
  have hnil : ∀ w : World, (binOp BinOp.eql 20 .nilIface .nilIface).run Try.prog w = .ok (.bool true) w := fun _ => by kernel_rfl
  refine wpS_of_wp ?_
  go_wp2
  all_goals (cases c₀; simp_all [bodyPostS, results, Try.results137, Exit.thenS])

theorem caught_bad (B : Nat) (x : Value) (E : TypeId) (w : World) (hw : w.heap[B]? = some (.cells #[x] E (0, 0))) :
    CallsD Try.prog 137 #[.pointer (some ⟨B, 0, none⟩)] (.panicking [{ v := .iface 195 (.agg #[]), recovered := false }]) w fun e u' w' => e = .returned (.tuple #[]) ∧ u' = .panicking [{ v := .iface 195 (.agg #[]), recovered := true }] ∧
      w' = w.setCell ⟨B, 0, none⟩ (.int .i64 2) := by
  refine callsD_of_wpS Try.func137 rfl fun c₀ cs hu => ?_
  apply wpS_seq
  apply wpS_region
  simp [wpOpsS, go_sem, recoverD, hu, Try.ntmps137, Exit.thenS]
  have hnil : ∀ w : World, (binOp BinOp.eql 20 (.iface 195 (.agg #[])) .nilIface).run Try.prog w = .ok (.bool false) w := fun _ => by kernel_rfl
  have hbad : ∀ w : World, (binOp BinOp.eql 20 (.iface 195 (.agg #[])) (.iface 195 (.agg #[]))).run Try.prog w = .ok (.bool true) w := fun _ => by kernel_rfl
  have hc : w.cell? ⟨B, 0, none⟩ = some x := by simp [World.cell?, hw]
  have hf : w.frozen? ⟨B, 0, none⟩ = false := by simp [World.frozen?, hw]
  refine wpS_of_wp ?_
  go_wp2
  all_goals (cases c₀; simp_all [bodyPostS, results, Try.results137, Exit.thenS])

end Go.Ab
