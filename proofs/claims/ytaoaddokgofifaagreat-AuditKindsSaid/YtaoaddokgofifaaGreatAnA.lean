/- The anchor of layer 26: a concrete run of the whole system, by the kernel. -/
import Derived.Test.YtaoaddokgofifaaGreatPrD
namespace Go.Pr
open Go Go.Proofs Go.Ev Go.Fv Go.RowKit
theorem anchor26_run : rcAt P0 T0 X0 60 (.fn 12) [] E0 (fun v _ => some (v, E0)) = some (.bool true, E0) := by kernel_rfl
theorem anchor26 (w : World) (m : Nat) : CallsIn Fence.wide m P0 12 #[] w fun e w' => e = .returned (.bool true) ∧ w.heap.size ≤ w'.heap.size ∧ (∀ b, b < w.heap.size → w'.heap[b]? = w.heap[b]?) ∧ w'.os = w.os ∧ w'.output = w.output :=
  closed_call t0_ok x0_ok x0_here c0_ok mixed_ok rfl anchor26_run w m
end Go.Pr
