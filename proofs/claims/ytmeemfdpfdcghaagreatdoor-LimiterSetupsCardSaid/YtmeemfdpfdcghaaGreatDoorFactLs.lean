/- The closed facts of limiterSetups's row, each by itself. -/
import Derived.Test.YtmeemfdpfdcghaaGreatDoorTie
import Derived.Test.YtmeemfdpfdcghaaGreatDoorCards
import Derived.KernelRfl
import Derived.JoinedOf
import Derived.Stop.Joined
import Derived.SevenTiedAt
namespace Go.Proofs.YtmeemfdpfdcghaaGreatDoor.factsLs

theorem and2 {a b : Bool} (h : a = true) (k : b = true) : (a && b) = true := by rw [h, k]; rfl

set_option maxRecDepth 100000
set_option maxHeartbeats 40000000 in
theorem closed : joinedFacts Tryz.prog 4 Tryz.f4 Rows.limiterSetupsSpec Rows.limiterSetupsRow = true := by
  unfold joinedFacts
  repeat' (with_reducible refine and2 ?_ ?_)
  all_goals (as_aux_lemma => kernel_rfl)

end Go.Proofs.YtmeemfdpfdcghaaGreatDoor.factsLs
