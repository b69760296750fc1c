/- What awake() of law 35 comes to: true, in every world; by the evaluator. -/
import Derived.Test.YtmeemfdpfdcghaaGreatDoorTa
namespace Go.Proofs.YtmeemfdpfdcghaaGreatDoor.Aw
open Go.Tc
theorem awake_run35 : saysTrue ((evK Tryz.prog tab 3000).call 21 [] emptyMem) = true := by kernel_rfl
theorem awake_calls35 (w : World) : Calls Tryz.prog 21 #[] w fun e w' => e = .returned (.bool true) ∧ Go.RowKit.Below w.heap.size w w' := calls_true tab_ok 3000 21 awake_run35 w
end Go.Proofs.YtmeemfdpfdcghaaGreatDoor.Aw
