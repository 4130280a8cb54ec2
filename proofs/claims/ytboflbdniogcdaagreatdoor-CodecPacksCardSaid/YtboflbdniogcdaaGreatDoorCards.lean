/-
  DERIVED. GIVEN WITH THE SEED: THE CARDS: each row of YtboflbdniogcdaaGreatDoorRows.lean that lists a variable, with what it lists TIED to the program's text (the seventh form; the later family's looks); each row that meets fmt, with fmt's text TOLD by the authors' own Lean function (tested against real Go, not proved from fmt's source: count such statements apart). THE CARD IS WHAT COUNTS. Prove the row's statement (the work); the ties are given (YtboflbdniogcdaaGreatDoorTie.lean); close each card by the builder's one call (the guide's Derived/Test/ToyasCard.lean, 'card_holds'). Laid BY PROGRAM, IN A SANDBOX (cutbox-door.mjs). By AI agents, Wed Nov 11 2026. No macro, syntax, notation, axiom, sorry.
-/
import Derived.Test.YtboflbdniogcdaaGreatDoorRows
import GoSem.ClaimSeven
namespace Go.Proofs.YtboflbdniogcdaaGreatDoor
namespace Rows

/-- THE TIED CARD OF 'mezzotintlaw24.CodecPacks'. -/
def codecPacksCard : Claim7 := { stood := { row := codecPacksRow, standIns := [], harness := (true, "81d60ad770ba0e9109811348abb4e4f55f6e85c6fe865bf47c89fc42b37c3467"), looks := false }, kinds := [], alts := [], laidByText := true, laidKinds := [.listed, .data], laidTests := true, laidLooks := .later }
def CodecPacksCardSaid : Prop := Claim7.holds Tryz.pinned (.plain (OpenSpec.ofChange codecPacksSpec)) codecPacksCard

/-- THE TIED CARD OF 'mezzotintlaw24.CodecAgain'. -/
def codecAgainCard : Claim7 := { stood := { row := codecAgainRow, standIns := [], harness := (true, "81d60ad770ba0e9109811348abb4e4f55f6e85c6fe865bf47c89fc42b37c3467"), looks := false }, kinds := [], alts := [], laidByText := true, laidKinds := [.listed, .data], laidTests := true, laidLooks := .later }
def CodecAgainCardSaid : Prop := Claim7.holds Tryz.pinned (.plain (OpenSpec.ofChange codecAgainSpec)) codecAgainCard

/-- THE TIED CARD OF 'mezzotintlaw24.CodecArgs'. -/
def codecArgsCard : Claim7 := { stood := { row := codecArgsRow, standIns := [], harness := (true, "81d60ad770ba0e9109811348abb4e4f55f6e85c6fe865bf47c89fc42b37c3467"), looks := false }, kinds := [], alts := [], laidByText := true, laidKinds := [.listed, .data], laidTests := true, laidLooks := .later }
def CodecArgsCardSaid : Prop := Claim7.holds Tryz.pinned (.plain (OpenSpec.ofChange codecArgsSpec)) codecArgsCard

/-- THE SECOND FORM's CARD OF 'mezzotintlaw24.CodecPacks'. -/
def codecPacksUptoCard : Claim7 := { stood := { row := codecPacksUptoRow, standIns := [], harness := (true, "81d60ad770ba0e9109811348abb4e4f55f6e85c6fe865bf47c89fc42b37c3467"), looks := false }, kinds := [], alts := [], laidByText := true, laidKinds := [.listed, .data], laidTests := true, laidLooks := .later }
def CodecPacksUptoCardSaid : Prop := Claim7.holds Tryz.pinned (.plain (OpenSpec.upto codecPacksSpec)) codecPacksUptoCard

/-- THE SECOND FORM's CARD OF 'mezzotintlaw24.CodecAgain'. -/
def codecAgainUptoCard : Claim7 := { stood := { row := codecAgainUptoRow, standIns := [], harness := (true, "81d60ad770ba0e9109811348abb4e4f55f6e85c6fe865bf47c89fc42b37c3467"), looks := false }, kinds := [], alts := [], laidByText := true, laidKinds := [.listed, .data], laidTests := true, laidLooks := .later }
def CodecAgainUptoCardSaid : Prop := Claim7.holds Tryz.pinned (.plain (OpenSpec.upto codecAgainSpec)) codecAgainUptoCard

/-- THE SECOND FORM's CARD OF 'mezzotintlaw24.CodecArgs'. -/
def codecArgsUptoCard : Claim7 := { stood := { row := codecArgsUptoRow, standIns := [], harness := (true, "81d60ad770ba0e9109811348abb4e4f55f6e85c6fe865bf47c89fc42b37c3467"), looks := false }, kinds := [], alts := [], laidByText := true, laidKinds := [.listed, .data], laidTests := true, laidLooks := .later }
def CodecArgsUptoCardSaid : Prop := Claim7.holds Tryz.pinned (.plain (OpenSpec.upto codecArgsSpec)) codecArgsUptoCard
end Rows
end Go.Proofs.YtboflbdniogcdaaGreatDoor
