/-
  DERIVED. GIVEN WITH THE SEED: THE CARDS: each row of YthcmkpcefiiiaaaGreatDoorRows.lean that lists a variable, with what it lists TIED to the program's text (the seventh form; the later family's looks); each row that meets fmt, with fmt's text TOLD by the authors' own Lean function (tested against real Go, not proved from fmt's source: count such statements apart). THE CARD IS WHAT COUNTS. Prove the row's statement (the work); the ties are given (YthcmkpcefiiiaaaGreatDoorTie.lean); close each card by the builder's one call (the guide's Derived/Test/ToyasCard.lean, 'card_holds'). Laid BY PROGRAM, IN A SANDBOX (cutbox-door.mjs). By AI agents, Wed Nov 11 2026. No macro, syntax, notation, axiom, sorry.
-/
import Derived.Test.YthcmkpcefiiiaaaGreatDoorRows
import GoSem.ClaimSeven
namespace Go.Proofs.YthcmkpcefiiiaaaGreatDoor
namespace Rows

/-- THE TIED CARD OF 'armplanlaw43.FormatKinds'. -/
def formatKindsCard : Claim7 := { stood := { row := formatKindsRow, standIns := [], harness := (true, "d3c3808fec48e408e70f3394c713f30646eb63f6003c7888f099632f4eed2f1b"), looks := true }, kinds := [], alts := [], laidByText := true, laidKinds := [.data, .data, .data, .data, .sentinel, .sentinel, .pinned], laidTests := true, laidLooks := .later }
def FormatKindsCardSaid : Prop := Claim7.holds Tryz.pinned (.plain (OpenSpec.ofChange formatKindsSpec)) formatKindsCard

/-- THE TIED CARD OF 'armplanlaw43.FormatReturns'. -/
def formatReturnsCard : Claim7 := { stood := { row := formatReturnsRow, standIns := [], harness := (true, "d3c3808fec48e408e70f3394c713f30646eb63f6003c7888f099632f4eed2f1b"), looks := true }, kinds := [], alts := [], laidByText := true, laidKinds := [.data, .data, .data, .data, .sentinel, .sentinel, .pinned], laidTests := true, laidLooks := .later }
def FormatReturnsCardSaid : Prop := Claim7.holds Tryz.pinned (.plain (OpenSpec.ofChange formatReturnsSpec)) formatReturnsCard

/-- THE TIED CARD OF 'armplanlaw43.FormatCanonical'. -/
def formatCanonicalCard : Claim7 := { stood := { row := formatCanonicalRow, standIns := [], harness := (true, "d3c3808fec48e408e70f3394c713f30646eb63f6003c7888f099632f4eed2f1b"), looks := true }, kinds := [], alts := [], laidByText := true, laidKinds := [.data, .data, .data, .data, .sentinel, .sentinel, .pinned], laidTests := true, laidLooks := .later }
def FormatCanonicalCardSaid : Prop := Claim7.holds Tryz.pinned (.plain (OpenSpec.ofChange formatCanonicalSpec)) formatCanonicalCard

/-- THE SECOND FORM's CARD OF 'armplanlaw43.FormatKinds'. -/
def formatKindsUptoCard : Claim7 := { stood := { row := formatKindsUptoRow, standIns := [], harness := (true, "d3c3808fec48e408e70f3394c713f30646eb63f6003c7888f099632f4eed2f1b"), looks := true }, kinds := [], alts := [], laidByText := true, laidKinds := [.data, .data, .data, .data, .sentinel, .sentinel, .pinned], laidTests := true, laidLooks := .later }
def FormatKindsUptoCardSaid : Prop := Claim7.holds Tryz.pinned (.plain (OpenSpec.upto formatKindsSpec)) formatKindsUptoCard

/-- THE SECOND FORM's CARD OF 'armplanlaw43.FormatReturns'. -/
def formatReturnsUptoCard : Claim7 := { stood := { row := formatReturnsUptoRow, standIns := [], harness := (true, "d3c3808fec48e408e70f3394c713f30646eb63f6003c7888f099632f4eed2f1b"), looks := true }, kinds := [], alts := [], laidByText := true, laidKinds := [.data, .data, .data, .data, .sentinel, .sentinel, .pinned], laidTests := true, laidLooks := .later }
def FormatReturnsUptoCardSaid : Prop := Claim7.holds Tryz.pinned (.plain (OpenSpec.upto formatReturnsSpec)) formatReturnsUptoCard

/-- THE SECOND FORM's CARD OF 'armplanlaw43.FormatCanonical'. -/
def formatCanonicalUptoCard : Claim7 := { stood := { row := formatCanonicalUptoRow, standIns := [], harness := (true, "d3c3808fec48e408e70f3394c713f30646eb63f6003c7888f099632f4eed2f1b"), looks := true }, kinds := [], alts := [], laidByText := true, laidKinds := [.data, .data, .data, .data, .sentinel, .sentinel, .pinned], laidTests := true, laidLooks := .later }
def FormatCanonicalUptoCardSaid : Prop := Claim7.holds Tryz.pinned (.plain (OpenSpec.upto formatCanonicalSpec)) formatCanonicalUptoCard
end Rows
end Go.Proofs.YthcmkpcefiiiaaaGreatDoor
