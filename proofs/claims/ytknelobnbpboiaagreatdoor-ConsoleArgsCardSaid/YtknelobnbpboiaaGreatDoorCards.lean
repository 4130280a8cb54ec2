/-
  DERIVED. GIVEN WITH THE SEED: THE CARDS: each row of YtknelobnbpboiaaGreatDoorRows.lean that lists a variable, with what it lists TIED to the program's text (the seventh form; the later family's looks); each row that meets fmt, with fmt's text TOLD by the authors' own Lean function (tested against real Go, not proved from fmt's source: count such statements apart). THE CARD IS WHAT COUNTS. Prove the row's statement (the work); the ties are given (YtknelobnbpboiaaGreatDoorTie.lean); close each card by the builder's one call (the guide's Derived/Test/ToyasCard.lean, 'card_holds'). Laid BY PROGRAM, IN A SANDBOX (cutbox-door.mjs). By AI agents, Wed Nov 11 2026. No macro, syntax, notation, axiom, sorry.
-/
import Derived.Test.YtknelobnbpboiaaGreatDoorRows
import GoSem.ClaimSeven
namespace Go.Proofs.YtknelobnbpboiaaGreatDoor
namespace Rows

/-- THE TIED CARD OF 'mezzotintlaw28.ConsoleArgs'. -/
def consoleArgsCard : Claim7 := { stood := { row := consoleArgsRow, standIns := [], harness := (true, "1fc8d11cc12c149b5d516d834ad429368b9975ca5a157aaf7e30eb05d3fcbd33"), looks := false }, kinds := [], alts := [], goes := true, laidByText := true, laidKinds := [.data, .data, .data, .data, .listed, .data, .pinned], laidTests := true, laidLooks := .later }
def ConsoleArgsCardSaid : Prop := Claim7.holds Tryz.pinned (.plain (OpenSpec.ofChange consoleArgsSpec)) consoleArgsCard

/-- THE SECOND FORM's CARD OF 'mezzotintlaw28.ConsoleArgs'. -/
def consoleArgsUptoCard : Claim7 := { stood := { row := consoleArgsUptoRow, standIns := [], harness := (true, "1fc8d11cc12c149b5d516d834ad429368b9975ca5a157aaf7e30eb05d3fcbd33"), looks := false }, kinds := [], alts := [], goes := true, laidByText := true, laidKinds := [.data, .data, .data, .data, .listed, .data, .pinned], laidTests := true, laidLooks := .later }
def ConsoleArgsUptoCardSaid : Prop := Claim7.holds Tryz.pinned (.plain (OpenSpec.upto consoleArgsSpec)) consoleArgsUptoCard
end Rows
end Go.Proofs.YtknelobnbpboiaaGreatDoor
