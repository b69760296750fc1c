/-
  DERIVED. GIVEN WITH THE SEED: THE CARDS: each row of YtmeemfdpfdcghaaGreatDoorRows.lean that lists a variable, with what it lists TIED to the program's text (the seventh form; the later family's looks); each row that meets fmt, with fmt's text TOLD by the authors' own Lean function (tested against real Go, not proved from fmt's source: count such statements apart). THE CARD IS WHAT COUNTS. Prove the row's statement (the work); the ties are given (YtmeemfdpfdcghaaGreatDoorTie.lean); close each card by the builder's one call (the guide's Derived/Test/ToyasCard.lean, 'card_holds'). Laid BY PROGRAM, IN A SANDBOX (cutbox-door.mjs). By AI agents, Wed Nov 11 2026. No macro, syntax, notation, axiom, sorry.
-/
import Derived.Test.YtmeemfdpfdcghaaGreatDoorRows
import GoSem.ClaimSeven
namespace Go.Proofs.YtmeemfdpfdcghaaGreatDoor
namespace Rows

/-- THE TIED CARD OF 'turncocklaw31.IdealMany'. -/
def idealManyCard : Claim7 := { stood := { row := idealManyRow, standIns := [], harness := (true, "8a7633c37ccc4fbe6c0a1bc3ac2511d098aef5e2aec57e69803edce7a9e7b5c6"), looks := true }, kinds := [], alts := [], laidByText := true, laidKinds := [.data, .pinned], laidTests := true, laidLooks := .later }
def IdealManyCardSaid : Prop := Claim7.holds Tryz.pinned (.plain (OpenSpec.ofChange idealManySpec)) idealManyCard

/-- THE TIED CARD OF 'turncocklaw30.LimiterSetups'. -/
def limiterSetupsCard : Claim7 := { stood := { row := limiterSetupsRow, standIns := [], harness := (true, "8a7633c37ccc4fbe6c0a1bc3ac2511d098aef5e2aec57e69803edce7a9e7b5c6"), looks := true }, kinds := [], alts := [], laidByText := true, laidKinds := [.data, .pinned], laidTests := true, laidLooks := .later }
def LimiterSetupsCardSaid : Prop := Claim7.holds Tryz.pinned (.plain (OpenSpec.ofChange limiterSetupsSpec)) limiterSetupsCard

/-- THE TIED CARD OF 'turncocklaw30.LimiterRaises'. -/
def limiterRaisesCard : Claim7 := { stood := { row := limiterRaisesRow, standIns := [], harness := (true, "8a7633c37ccc4fbe6c0a1bc3ac2511d098aef5e2aec57e69803edce7a9e7b5c6"), looks := true }, kinds := [], alts := [], laidByText := true, laidKinds := [.data, .pinned], laidTests := true, laidLooks := .later }
def LimiterRaisesCardSaid : Prop := Claim7.holds Tryz.pinned (.plain (OpenSpec.ofChange limiterRaisesSpec)) limiterRaisesCard

/-- THE TIED CARD OF 'turncocklaw35.AuditGood'. -/
def auditGoodCard : Claim7 := { stood := { row := auditGoodRow, standIns := [], harness := (true, "8a7633c37ccc4fbe6c0a1bc3ac2511d098aef5e2aec57e69803edce7a9e7b5c6"), looks := true }, kinds := [], alts := [], laidByText := true, laidKinds := [.data, .pinned], laidTests := true, laidLooks := .later }
def AuditGoodCardSaid : Prop := Claim7.holds Tryz.pinned (.plain (OpenSpec.ofChange auditGoodSpec)) auditGoodCard

/-- THE SECOND FORM's CARD OF 'turncocklaw31.IdealMany'. -/
def idealManyUptoCard : Claim7 := { stood := { row := idealManyUptoRow, standIns := [], harness := (true, "8a7633c37ccc4fbe6c0a1bc3ac2511d098aef5e2aec57e69803edce7a9e7b5c6"), looks := true }, kinds := [], alts := [], laidByText := true, laidKinds := [.data, .pinned], laidTests := true, laidLooks := .later }
def IdealManyUptoCardSaid : Prop := Claim7.holds Tryz.pinned (.plain (OpenSpec.upto idealManySpec)) idealManyUptoCard

/-- THE SECOND FORM's CARD OF 'turncocklaw30.LimiterSetups'. -/
def limiterSetupsUptoCard : Claim7 := { stood := { row := limiterSetupsUptoRow, standIns := [], harness := (true, "8a7633c37ccc4fbe6c0a1bc3ac2511d098aef5e2aec57e69803edce7a9e7b5c6"), looks := true }, kinds := [], alts := [], laidByText := true, laidKinds := [.data, .pinned], laidTests := true, laidLooks := .later }
def LimiterSetupsUptoCardSaid : Prop := Claim7.holds Tryz.pinned (.plain (OpenSpec.upto limiterSetupsSpec)) limiterSetupsUptoCard

/-- THE SECOND FORM's CARD OF 'turncocklaw30.LimiterRaises'. -/
def limiterRaisesUptoCard : Claim7 := { stood := { row := limiterRaisesUptoRow, standIns := [], harness := (true, "8a7633c37ccc4fbe6c0a1bc3ac2511d098aef5e2aec57e69803edce7a9e7b5c6"), looks := true }, kinds := [], alts := [], laidByText := true, laidKinds := [.data, .pinned], laidTests := true, laidLooks := .later }
def LimiterRaisesUptoCardSaid : Prop := Claim7.holds Tryz.pinned (.plain (OpenSpec.upto limiterRaisesSpec)) limiterRaisesUptoCard

/-- THE SECOND FORM's CARD OF 'turncocklaw35.AuditGood'. -/
def auditGoodUptoCard : Claim7 := { stood := { row := auditGoodUptoRow, standIns := [], harness := (true, "8a7633c37ccc4fbe6c0a1bc3ac2511d098aef5e2aec57e69803edce7a9e7b5c6"), looks := true }, kinds := [], alts := [], laidByText := true, laidKinds := [.data, .pinned], laidTests := true, laidLooks := .later }
def AuditGoodUptoCardSaid : Prop := Claim7.holds Tryz.pinned (.plain (OpenSpec.upto auditGoodSpec)) auditGoodUptoCard
end Rows
end Go.Proofs.YtmeemfdpfdcghaaGreatDoor
