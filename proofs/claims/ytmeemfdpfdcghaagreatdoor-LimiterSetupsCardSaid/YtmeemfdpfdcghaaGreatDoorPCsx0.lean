-- Printed by a program of this session (wip/pr.py) over the kit's print.py; some functions are told, and proved by the evaluator.
import Derived.Test.YtmeemfdpfdcghaaGreatDoorProg
import Derived.Below
import Derived.Deep.Draws
import Derived.Deep.AppendLies
import Derived.Maps.AppendAt
import Derived.OwnWalk
import Derived.Laws.BytesArg
import Derived.Laws.MakeOwn
import Derived.Laws.OwnMore
import Derived.Deep.OwnRows
import Derived.Tactics
import Derived.Lib.ConvBytes
import Derived.Laws.Slices
import Derived.WalkKit
import Derived.KernelRfl
import Derived.RowKit3
import Derived.Deep.LoopGhost
import Derived.Deep.QuietTactic
import Derived.BigQuiet
import Derived.WideLaws
import Derived.Deep.DeepCutAuto
import Derived.Deep.CutBlock
import Derived.Deep.RegionHeld3
import Derived.Laws.Rows
import Derived.Lib.AppendStr
import Derived.ArgAppend
import Derived.Laws.IdiomCopy
import Derived.OrdersHeld
import Derived.Laws.BitsLemmas
import Derived.RowKit
import Derived.Test.YtmeemfdpfdcghaaGreatDoorWWords
import Derived.Test.YtmeemfdpfdcghaaGreatDoorWLast
import Derived.Test.YtmeemfdpfdcghaaGreatDoorWTab
import Derived.Test.YtmeemfdpfdcghaaGreatDoorWFour
import Derived.Test.YtmeemfdpfdcghaaGreatDoorWQPut
import Derived.Test.YtmeemfdpfdcghaaGreatDoorWApart
import Derived.Test.YtmeemfdpfdcghaaGreatDoorWArr
import Derived.Test.YtmeemfdpfdcghaaGreatDoorWZeros
import Derived.Test.YtmeemfdpfdcghaaGreatDoorWFoot
import Derived.Test.YtmeemfdpfdcghaaGreatDoorWKept
import Derived.Test.YtmeemfdpfdcghaaGreatDoorWShare
import Derived.Test.YtmeemfdpfdcghaaGreatDoorWN
import Derived.Test.YtmeemfdpfdcghaaGreatDoorWFootNe
import Derived.Test.YtmeemfdpfdcghaaGreatDoorWAt
import Derived.Test.YtmeemfdpfdcghaaGreatDoorWEqStruct
import Derived.Test.YtmeemfdpfdcghaaGreatDoorWRepsOne
import Derived.Test.YtmeemfdpfdcghaaGreatDoorWInv
import Derived.Test.YtmeemfdpfdcghaaGreatDoorWInvWords
import Derived.Test.YtmeemfdpfdcghaaGreatDoorWGuard
import Derived.Test.YtmeemfdpfdcghaaGreatDoorWNEv
import Derived.Test.YtmeemfdpfdcghaaGreatDoorWMore
namespace Go.Proofs.YtmeemfdpfdcghaaGreatDoor.PCs
open Go.RowKit Go.Proofs.YtmeemfdpfdcghaaGreatDoorW.PrintWords Go.Proofs.YtmeemfdpfdcghaaGreatDoorW.PrintLast Go.Proofs.YtmeemfdpfdcghaaGreatDoorW.PrintMore
attribute [local go_sem] max2_int min2_int max_two min_two max_three min_three max_four min_four   -- for this text's walks alone
set_option linter.unusedVariables false
set_option linter.unusedSimpArgs false



def errW : Option Int → Value
  | none => .nilIface
  | some c => .iface 0 (.int .i64 c)
theorem errW_none : errW none = .nilIface := rfl
theorem errW_some (c : Int) : errW (some c) = .iface 0 (.int .i64 c) := rfl

-- the values' own types

end Go.Proofs.YtmeemfdpfdcghaaGreatDoor.PCs
