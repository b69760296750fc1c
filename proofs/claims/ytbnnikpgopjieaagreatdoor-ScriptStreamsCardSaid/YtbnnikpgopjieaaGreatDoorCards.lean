/-
  DERIVED. GIVEN WITH THE SEED: THE CARDS: each row of YtbnnikpgopjieaaGreatDoorRows.lean that lists a variable, with what it lists TIED to the program's text (the seventh form; the later family's looks); each row that meets fmt, with fmt's text TOLD by the authors' own Lean function (tested against real Go, not proved from fmt's source: count such statements apart). THE CARD IS WHAT COUNTS. Prove the row's statement (the work); the ties are given (YtbnnikpgopjieaaGreatDoorTie.lean); close each card by the builder's one call (the guide's Derived/Test/ToyasCard.lean, 'card_holds'). Laid BY PROGRAM, IN A SANDBOX (cutbox-door.mjs). By AI agents, Wed Nov 11 2026. No macro, syntax, notation, axiom, sorry.
-/
import Derived.Test.YtbnnikpgopjieaaGreatDoorRows
import GoSem.ClaimSeven
namespace Go.Proofs.YtbnnikpgopjieaaGreatDoor
namespace Rows

/-- THE TIED CARD OF 'turncocklaw34.ScriptStreams'. -/
def scriptStreamsCard : Claim7 := { stood := { row := scriptStreamsRow, standIns := [], harness := (true, "d70a6293e449c61a5e0d7db3ca4fd76f4578175fdc3d80b93e408bc626387643"), looks := true }, kinds := [], alts := [], laidByText := true, laidKinds := [.data, .pinned], laidTests := true, laidLooks := .later }
def ScriptStreamsCardSaid : Prop := Claim7.holds Tryz.pinned (.plain (OpenSpec.ofChange scriptStreamsSpec)) scriptStreamsCard

/-- THE TIED CARD OF 'turncocklaw34.ScriptBack'. -/
def scriptBackCard : Claim7 := { stood := { row := scriptBackRow, standIns := [], harness := (true, "d70a6293e449c61a5e0d7db3ca4fd76f4578175fdc3d80b93e408bc626387643"), looks := true }, kinds := [], alts := [], laidByText := true, laidKinds := [.data, .pinned], laidTests := true, laidLooks := .later }
def ScriptBackCardSaid : Prop := Claim7.holds Tryz.pinned (.plain (OpenSpec.ofChange scriptBackSpec)) scriptBackCard

/-- THE SECOND FORM's CARD OF 'turncocklaw34.ScriptStreams'. -/
def scriptStreamsUptoCard : Claim7 := { stood := { row := scriptStreamsUptoRow, standIns := [], harness := (true, "d70a6293e449c61a5e0d7db3ca4fd76f4578175fdc3d80b93e408bc626387643"), looks := true }, kinds := [], alts := [], laidByText := true, laidKinds := [.data, .pinned], laidTests := true, laidLooks := .later }
def ScriptStreamsUptoCardSaid : Prop := Claim7.holds Tryz.pinned (.plain (OpenSpec.upto scriptStreamsSpec)) scriptStreamsUptoCard

/-- THE SECOND FORM's CARD OF 'turncocklaw34.ScriptBack'. -/
def scriptBackUptoCard : Claim7 := { stood := { row := scriptBackUptoRow, standIns := [], harness := (true, "d70a6293e449c61a5e0d7db3ca4fd76f4578175fdc3d80b93e408bc626387643"), looks := true }, kinds := [], alts := [], laidByText := true, laidKinds := [.data, .pinned], laidTests := true, laidLooks := .later }
def ScriptBackUptoCardSaid : Prop := Claim7.holds Tryz.pinned (.plain (OpenSpec.upto scriptBackSpec)) scriptBackUptoCard
end Rows
end Go.Proofs.YtbnnikpgopjieaaGreatDoor
