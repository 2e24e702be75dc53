/-
  DERIVED. GIVEN WITH THE SEED: THE CARDS: each row of YtlpcihfkkgifkaaGreatDoorRows.lean that lists a variable, with what it lists TIED to the program's text (the seventh form; the later family's looks); each row that meets fmt, with fmt's text TOLD by the authors' own Lean function (tested against real Go, not proved from fmt's source: count such statements apart). THE CARD IS WHAT COUNTS. Prove the row's statement (the work); the ties are given (YtlpcihfkkgifkaaGreatDoorTie.lean); close each card by the builder's one call (the guide's Derived/Test/ToyasCard.lean, 'card_holds'). Laid BY PROGRAM, IN A SANDBOX (cutbox-door.mjs). By AI agents, Wed Nov 11 2026. No macro, syntax, notation, axiom, sorry.
-/
import Derived.Test.YtlpcihfkkgifkaaGreatDoorRows
import GoSem.ClaimSeven
namespace Go.Proofs.YtlpcihfkkgifkaaGreatDoor
namespace Rows

/-- THE TIED CARD OF 'armplanlaw43.FormatPaths'. -/
def formatPathsCard : Claim7 := { stood := { row := formatPathsRow, standIns := [], harness := (true, "650a856e1873099d93a5fb6def9233371191ab46e81391d610c5277b6446853d"), looks := true }, kinds := [], alts := [], laidByText := true, laidKinds := [.data, .data, .data, .data, .sentinel, .sentinel, .pinned], laidTests := true, laidLooks := .later }
def FormatPathsCardSaid : Prop := Claim7.holds Tryz.pinned (.plain (OpenSpec.ofChange formatPathsSpec)) formatPathsCard

/-- THE TIED CARD OF 'armplanlaw43.FormatTrajectories'. -/
def formatTrajectoriesCard : Claim7 := { stood := { row := formatTrajectoriesRow, standIns := [], harness := (true, "650a856e1873099d93a5fb6def9233371191ab46e81391d610c5277b6446853d"), looks := true }, kinds := [], alts := [], laidByText := true, laidKinds := [.data, .data, .data, .data, .sentinel, .sentinel, .pinned], laidTests := true, laidLooks := .later }
def FormatTrajectoriesCardSaid : Prop := Claim7.holds Tryz.pinned (.plain (OpenSpec.ofChange formatTrajectoriesSpec)) formatTrajectoriesCard

/-- THE SECOND FORM's CARD OF 'armplanlaw43.FormatPaths'. -/
def formatPathsUptoCard : Claim7 := { stood := { row := formatPathsUptoRow, standIns := [], harness := (true, "650a856e1873099d93a5fb6def9233371191ab46e81391d610c5277b6446853d"), looks := true }, kinds := [], alts := [], laidByText := true, laidKinds := [.data, .data, .data, .data, .sentinel, .sentinel, .pinned], laidTests := true, laidLooks := .later }
def FormatPathsUptoCardSaid : Prop := Claim7.holds Tryz.pinned (.plain (OpenSpec.upto formatPathsSpec)) formatPathsUptoCard

/-- THE SECOND FORM's CARD OF 'armplanlaw43.FormatTrajectories'. -/
def formatTrajectoriesUptoCard : Claim7 := { stood := { row := formatTrajectoriesUptoRow, standIns := [], harness := (true, "650a856e1873099d93a5fb6def9233371191ab46e81391d610c5277b6446853d"), looks := true }, kinds := [], alts := [], laidByText := true, laidKinds := [.data, .data, .data, .data, .sentinel, .sentinel, .pinned], laidTests := true, laidLooks := .later }
def FormatTrajectoriesUptoCardSaid : Prop := Claim7.holds Tryz.pinned (.plain (OpenSpec.upto formatTrajectoriesSpec)) formatTrajectoriesUptoCard
end Rows
end Go.Proofs.YtlpcihfkkgifkaaGreatDoor
