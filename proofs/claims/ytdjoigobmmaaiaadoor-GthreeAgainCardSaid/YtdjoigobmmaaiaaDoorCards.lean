/-
  DERIVED. GIVEN WITH THE SEED: THE CARDS: each row of YtdjoigobmmaaiaaDoorRows.lean that lists a variable, with what it lists TIED to the program's text (the seventh form; the later family's looks); each row that meets fmt, with fmt's text TOLD by the authors' own Lean function (tested against real Go, not proved from fmt's source: count such statements apart). THE CARD IS WHAT COUNTS. Prove the row's statement (the work); the ties are given (YtdjoigobmmaaiaaDoorTie.lean); close each card by the builder's one call (the guide's Derived/Test/ToyasCard.lean, 'card_holds'). Laid BY PROGRAM, IN A SANDBOX (cutbox-door.mjs). By AI agents, Wed Nov 11 2026. No macro, syntax, notation, axiom, sorry.
-/
import Derived.Test.YtdjoigobmmaaiaaDoorRows
import GoSem.ClaimSeven
namespace Go.Proofs.YtdjoigobmmaaiaaDoor
namespace Rows

/-- THE TIED CARD OF 'mezzotintlaw16.GfourTells'. -/
def gfourTellsCard : Claim7 := { stood := { row := gfourTellsRow, standIns := [], harness := (true, "b11429db8b4f7339642d75d30ff1c482208577c154e1938ec49d3997c094908e"), looks := false }, kinds := [], alts := [], laidByText := true, laidKinds := [.listed, .data], laidTests := true, laidLooks := .later }
def GfourTellsCardSaid : Prop := Claim7.holds Tryd.pinned (.plain (OpenSpec.ofChange gfourTellsSpec)) gfourTellsCard

/-- THE TIED CARD OF 'mezzotintlaw16.GfourReads'. -/
def gfourReadsCard : Claim7 := { stood := { row := gfourReadsRow, standIns := [], harness := (true, "b11429db8b4f7339642d75d30ff1c482208577c154e1938ec49d3997c094908e"), looks := false }, kinds := [], alts := [], laidByText := true, laidKinds := [.listed, .data], laidTests := true, laidLooks := .later }
def GfourReadsCardSaid : Prop := Claim7.holds Tryd.pinned (.plain (OpenSpec.ofChange gfourReadsSpec)) gfourReadsCard

/-- THE TIED CARD OF 'mezzotintlaw16.GfourAgain'. -/
def gfourAgainCard : Claim7 := { stood := { row := gfourAgainRow, standIns := [], harness := (true, "b11429db8b4f7339642d75d30ff1c482208577c154e1938ec49d3997c094908e"), looks := false }, kinds := [], alts := [], laidByText := true, laidKinds := [.listed, .data], laidTests := true, laidLooks := .later }
def GfourAgainCardSaid : Prop := Claim7.holds Tryd.pinned (.plain (OpenSpec.ofChange gfourAgainSpec)) gfourAgainCard

/-- THE TIED CARD OF 'mezzotintlaw16.GfourTail'. -/
def gfourTailCard : Claim7 := { stood := { row := gfourTailRow, standIns := [], harness := (true, "b11429db8b4f7339642d75d30ff1c482208577c154e1938ec49d3997c094908e"), looks := false }, kinds := [], alts := [], laidByText := true, laidKinds := [.listed, .data], laidTests := true, laidLooks := .later }
def GfourTailCardSaid : Prop := Claim7.holds Tryd.pinned (.plain (OpenSpec.ofChange gfourTailSpec)) gfourTailCard

/-- THE TIED CARD OF 'mezzotintlaw15.GthreeTells'. -/
def gthreeTellsCard : Claim7 := { stood := { row := gthreeTellsRow, standIns := [], harness := (true, "b11429db8b4f7339642d75d30ff1c482208577c154e1938ec49d3997c094908e"), looks := false }, kinds := [], alts := [], laidByText := true, laidKinds := [.listed, .data], laidTests := true, laidLooks := .later }
def GthreeTellsCardSaid : Prop := Claim7.holds Tryd.pinned (.plain (OpenSpec.ofChange gthreeTellsSpec)) gthreeTellsCard

/-- THE TIED CARD OF 'mezzotintlaw15.GthreeReads'. -/
def gthreeReadsCard : Claim7 := { stood := { row := gthreeReadsRow, standIns := [], harness := (true, "b11429db8b4f7339642d75d30ff1c482208577c154e1938ec49d3997c094908e"), looks := false }, kinds := [], alts := [], laidByText := true, laidKinds := [.listed, .data], laidTests := true, laidLooks := .later }
def GthreeReadsCardSaid : Prop := Claim7.holds Tryd.pinned (.plain (OpenSpec.ofChange gthreeReadsSpec)) gthreeReadsCard

/-- THE TIED CARD OF 'mezzotintlaw15.GthreeAgain'. -/
def gthreeAgainCard : Claim7 := { stood := { row := gthreeAgainRow, standIns := [], harness := (true, "b11429db8b4f7339642d75d30ff1c482208577c154e1938ec49d3997c094908e"), looks := false }, kinds := [], alts := [], laidByText := true, laidKinds := [.listed, .data], laidTests := true, laidLooks := .later }
def GthreeAgainCardSaid : Prop := Claim7.holds Tryd.pinned (.plain (OpenSpec.ofChange gthreeAgainSpec)) gthreeAgainCard

/-- THE SECOND FORM's CARD OF 'mezzotintlaw16.GfourTells'. -/
def gfourTellsUptoCard : Claim7 := { stood := { row := gfourTellsUptoRow, standIns := [], harness := (true, "b11429db8b4f7339642d75d30ff1c482208577c154e1938ec49d3997c094908e"), looks := false }, kinds := [], alts := [], laidByText := true, laidKinds := [.listed, .data], laidTests := true, laidLooks := .later }
def GfourTellsUptoCardSaid : Prop := Claim7.holds Tryd.pinned (.plain (OpenSpec.upto gfourTellsSpec)) gfourTellsUptoCard

/-- THE SECOND FORM's CARD OF 'mezzotintlaw16.GfourReads'. -/
def gfourReadsUptoCard : Claim7 := { stood := { row := gfourReadsUptoRow, standIns := [], harness := (true, "b11429db8b4f7339642d75d30ff1c482208577c154e1938ec49d3997c094908e"), looks := false }, kinds := [], alts := [], laidByText := true, laidKinds := [.listed, .data], laidTests := true, laidLooks := .later }
def GfourReadsUptoCardSaid : Prop := Claim7.holds Tryd.pinned (.plain (OpenSpec.upto gfourReadsSpec)) gfourReadsUptoCard

/-- THE SECOND FORM's CARD OF 'mezzotintlaw16.GfourAgain'. -/
def gfourAgainUptoCard : Claim7 := { stood := { row := gfourAgainUptoRow, standIns := [], harness := (true, "b11429db8b4f7339642d75d30ff1c482208577c154e1938ec49d3997c094908e"), looks := false }, kinds := [], alts := [], laidByText := true, laidKinds := [.listed, .data], laidTests := true, laidLooks := .later }
def GfourAgainUptoCardSaid : Prop := Claim7.holds Tryd.pinned (.plain (OpenSpec.upto gfourAgainSpec)) gfourAgainUptoCard

/-- THE SECOND FORM's CARD OF 'mezzotintlaw16.GfourTail'. -/
def gfourTailUptoCard : Claim7 := { stood := { row := gfourTailUptoRow, standIns := [], harness := (true, "b11429db8b4f7339642d75d30ff1c482208577c154e1938ec49d3997c094908e"), looks := false }, kinds := [], alts := [], laidByText := true, laidKinds := [.listed, .data], laidTests := true, laidLooks := .later }
def GfourTailUptoCardSaid : Prop := Claim7.holds Tryd.pinned (.plain (OpenSpec.upto gfourTailSpec)) gfourTailUptoCard

/-- THE SECOND FORM's CARD OF 'mezzotintlaw15.GthreeTells'. -/
def gthreeTellsUptoCard : Claim7 := { stood := { row := gthreeTellsUptoRow, standIns := [], harness := (true, "b11429db8b4f7339642d75d30ff1c482208577c154e1938ec49d3997c094908e"), looks := false }, kinds := [], alts := [], laidByText := true, laidKinds := [.listed, .data], laidTests := true, laidLooks := .later }
def GthreeTellsUptoCardSaid : Prop := Claim7.holds Tryd.pinned (.plain (OpenSpec.upto gthreeTellsSpec)) gthreeTellsUptoCard

/-- THE SECOND FORM's CARD OF 'mezzotintlaw15.GthreeReads'. -/
def gthreeReadsUptoCard : Claim7 := { stood := { row := gthreeReadsUptoRow, standIns := [], harness := (true, "b11429db8b4f7339642d75d30ff1c482208577c154e1938ec49d3997c094908e"), looks := false }, kinds := [], alts := [], laidByText := true, laidKinds := [.listed, .data], laidTests := true, laidLooks := .later }
def GthreeReadsUptoCardSaid : Prop := Claim7.holds Tryd.pinned (.plain (OpenSpec.upto gthreeReadsSpec)) gthreeReadsUptoCard

/-- THE SECOND FORM's CARD OF 'mezzotintlaw15.GthreeAgain'. -/
def gthreeAgainUptoCard : Claim7 := { stood := { row := gthreeAgainUptoRow, standIns := [], harness := (true, "b11429db8b4f7339642d75d30ff1c482208577c154e1938ec49d3997c094908e"), looks := false }, kinds := [], alts := [], laidByText := true, laidKinds := [.listed, .data], laidTests := true, laidLooks := .later }
def GthreeAgainUptoCardSaid : Prop := Claim7.holds Tryd.pinned (.plain (OpenSpec.upto gthreeAgainSpec)) gthreeAgainUptoCard
end Rows
end Go.Proofs.YtdjoigobmmaaiaaDoor
