/-
  DERIVED. GIVEN WITH THE SEED: THE CARDS: each row of YtkfdjlhjeclcbaaGreatDoorRows.lean that lists a variable, with what it lists TIED to the program's text (the seventh form; the later family's looks); each row that meets fmt, with fmt's text TOLD by the authors' own Lean function (tested against real Go, not proved from fmt's source: count such statements apart). THE CARD IS WHAT COUNTS. Prove the row's statement (the work); the ties are given (YtkfdjlhjeclcbaaGreatDoorTie.lean); close each card by the builder's one call (the guide's Derived/Test/ToyasCard.lean, 'card_holds'). Laid BY PROGRAM, IN A SANDBOX (cutbox-door.mjs). By AI agents, Wed Nov 11 2026. No macro, syntax, notation, axiom, sorry.
-/
import Derived.Test.YtkfdjlhjeclcbaaGreatDoorRows
import GoSem.ClaimSeven
namespace Go.Proofs.YtkfdjlhjeclcbaaGreatDoor
namespace Rows

/-- THE TIED CARD OF 'concordatlaw22.RunSame'. -/
def runSameCard : Claim7 := { stood := { row := runSameRow, standIns := [], harness := (true, "267a20a1a24b6142cdc890c1d56e86711be4aa9b849eb4c7e6e5dd30850985d0"), looks := true }, kinds := [], alts := [], laidByText := true, laidKinds := [.data, .data, .data], laidTests := true, laidLooks := .later }
def RunSameCardSaid : Prop := Claim7.holds Tryz.pinned (.plain (OpenSpec.ofChange runSameSpec)) runSameCard

/-- THE TIED CARD OF 'concordatlaw23.CheckSwaps'. -/
def checkSwapsCard : Claim7 := { stood := { row := checkSwapsRow, standIns := [], harness := (true, "267a20a1a24b6142cdc890c1d56e86711be4aa9b849eb4c7e6e5dd30850985d0"), looks := true }, kinds := [], alts := [], laidByText := true, laidKinds := [.data, .data, .data, .data, .sentinel, .sentinel, .widerDeep, .pinned], laidTests := true, laidLooks := .later }
def CheckSwapsCardSaid : Prop := Claim7.holds Tryz.pinned (.plain (OpenSpec.ofChange checkSwapsSpec)) checkSwapsCard

/-- THE SECOND FORM's CARD OF 'concordatlaw22.RunSame'. -/
def runSameUptoCard : Claim7 := { stood := { row := runSameUptoRow, standIns := [], harness := (true, "267a20a1a24b6142cdc890c1d56e86711be4aa9b849eb4c7e6e5dd30850985d0"), looks := true }, kinds := [], alts := [], laidByText := true, laidKinds := [.data, .data, .data], laidTests := true, laidLooks := .later }
def RunSameUptoCardSaid : Prop := Claim7.holds Tryz.pinned (.plain (OpenSpec.upto runSameSpec)) runSameUptoCard

/-- THE SECOND FORM's CARD OF 'concordatlaw23.CheckSwaps'. -/
def checkSwapsUptoCard : Claim7 := { stood := { row := checkSwapsUptoRow, standIns := [], harness := (true, "267a20a1a24b6142cdc890c1d56e86711be4aa9b849eb4c7e6e5dd30850985d0"), looks := true }, kinds := [], alts := [], laidByText := true, laidKinds := [.data, .data, .data, .data, .sentinel, .sentinel, .widerDeep, .pinned], laidTests := true, laidLooks := .later }
def CheckSwapsUptoCardSaid : Prop := Claim7.holds Tryz.pinned (.plain (OpenSpec.upto checkSwapsSpec)) checkSwapsUptoCard
end Rows
end Go.Proofs.YtkfdjlhjeclcbaaGreatDoor
