/- What awake() of law 30 comes to: true, in every world; by the evaluator. -/
import Derived.Test.YtmeemfdpfdcghaaGreatDoorTa
namespace Go.Proofs.YtmeemfdpfdcghaaGreatDoor.Aw
open Go.Tc
theorem awake_run30 : saysTrue ((evK Tryz.prog tab 3000).call 15 [] emptyMem) = true := by kernel_rfl
theorem awake_calls30 (w : World) : Calls Tryz.prog 15 #[] w fun e w' => e = .returned (.bool true) ∧ Go.RowKit.Below w.heap.size w w' := calls_true tab_ok 3000 15 awake_run30 w
end Go.Proofs.YtmeemfdpfdcghaaGreatDoor.Aw
