/-
  DERIVED. GIVEN WITH THE SEED: THE CARDS: each row of YtdbdokjlcdogiaaDoorRows.lean that lists a variable, with what it lists TIED to the program's text (the seventh form; the later family's looks); each row that meets fmt, with fmt's text TOLD by the authors' own Lean function (tested against real Go, not proved from fmt's source: count such statements apart). THE CARD IS WHAT COUNTS. Prove the row's statement (the work); the ties are given (YtdbdokjlcdogiaaDoorTie.lean); close each card by the builder's one call (the guide's Derived/Test/ToyasCard.lean, 'card_holds'). Laid BY PROGRAM, IN A SANDBOX (cutbox-door.mjs). By AI agents, Wed Nov 11 2026. No macro, syntax, notation, axiom, sorry.
-/
import Derived.Test.YtdbdokjlcdogiaaDoorRows
import GoSem.ClaimSeven
namespace Go.Proofs.YtdbdokjlcdogiaaDoor
namespace Rows

/-- THE TIED CARD OF 'heronlaw10.CodePrints'. -/
def codePrintsCard : Claim7 := { stood := { row := codePrintsRow, standIns := [], harness := (true, "2115d3ed2e7a1547ed2858191e98f1436f2c16dbbff1ff23cf6317fed2166d01"), looks := true }, kinds := [], alts := [], laidByText := true, laidKinds := [.data, .data, .data, .data], laidTests := true, laidLooks := .later }
def CodePrintsCardSaid : Prop := Claim7.holds Tryd.pinned (.plain (OpenSpec.ofChange codePrintsSpec)) codePrintsCard

/-- THE TIED CARD OF 'heronlaw10.CodeLoads'. -/
def codeLoadsCard : Claim7 := { stood := { row := codeLoadsRow, standIns := [], harness := (true, "2115d3ed2e7a1547ed2858191e98f1436f2c16dbbff1ff23cf6317fed2166d01"), looks := true }, kinds := [], alts := [], laidByText := true, laidKinds := [.data, .data, .data, .data], laidTests := true, laidLooks := .later }
def CodeLoadsCardSaid : Prop := Claim7.holds Tryd.pinned (.plain (OpenSpec.ofChange codeLoadsSpec)) codeLoadsCard

/-- THE TIED CARD OF 'heronlaw10.CodeSpoilt'. -/
def codeSpoiltCard : Claim7 := { stood := { row := codeSpoiltRow, standIns := [], harness := (true, "2115d3ed2e7a1547ed2858191e98f1436f2c16dbbff1ff23cf6317fed2166d01"), looks := true }, kinds := [], alts := [], laidByText := true, laidKinds := [.data, .data, .data, .data], laidTests := true, laidLooks := .later }
def CodeSpoiltCardSaid : Prop := Claim7.holds Tryd.pinned (.plain (OpenSpec.ofChange codeSpoiltSpec)) codeSpoiltCard

/-- THE TIED CARD OF 'heronlaw10.CodeReads'. -/
def codeReadsCard : Claim7 := { stood := { row := codeReadsRow, standIns := [], harness := (true, "2115d3ed2e7a1547ed2858191e98f1436f2c16dbbff1ff23cf6317fed2166d01"), looks := true }, kinds := [], alts := [], laidByText := true, laidKinds := [.data, .data, .data, .data], laidTests := true, laidLooks := .later }
def CodeReadsCardSaid : Prop := Claim7.holds Tryd.pinned (.plain (OpenSpec.ofChange codeReadsSpec)) codeReadsCard

/-- THE SECOND FORM's CARD OF 'heronlaw10.CodePrints'. -/
def codePrintsUptoCard : Claim7 := { stood := { row := codePrintsUptoRow, standIns := [], harness := (true, "2115d3ed2e7a1547ed2858191e98f1436f2c16dbbff1ff23cf6317fed2166d01"), looks := true }, kinds := [], alts := [], laidByText := true, laidKinds := [.data, .data, .data, .data], laidTests := true, laidLooks := .later }
def CodePrintsUptoCardSaid : Prop := Claim7.holds Tryd.pinned (.plain (OpenSpec.upto codePrintsSpec)) codePrintsUptoCard

/-- THE SECOND FORM's CARD OF 'heronlaw10.CodeLoads'. -/
def codeLoadsUptoCard : Claim7 := { stood := { row := codeLoadsUptoRow, standIns := [], harness := (true, "2115d3ed2e7a1547ed2858191e98f1436f2c16dbbff1ff23cf6317fed2166d01"), looks := true }, kinds := [], alts := [], laidByText := true, laidKinds := [.data, .data, .data, .data], laidTests := true, laidLooks := .later }
def CodeLoadsUptoCardSaid : Prop := Claim7.holds Tryd.pinned (.plain (OpenSpec.upto codeLoadsSpec)) codeLoadsUptoCard

/-- THE SECOND FORM's CARD OF 'heronlaw10.CodeSpoilt'. -/
def codeSpoiltUptoCard : Claim7 := { stood := { row := codeSpoiltUptoRow, standIns := [], harness := (true, "2115d3ed2e7a1547ed2858191e98f1436f2c16dbbff1ff23cf6317fed2166d01"), looks := true }, kinds := [], alts := [], laidByText := true, laidKinds := [.data, .data, .data, .data], laidTests := true, laidLooks := .later }
def CodeSpoiltUptoCardSaid : Prop := Claim7.holds Tryd.pinned (.plain (OpenSpec.upto codeSpoiltSpec)) codeSpoiltUptoCard

/-- THE SECOND FORM's CARD OF 'heronlaw10.CodeReads'. -/
def codeReadsUptoCard : Claim7 := { stood := { row := codeReadsUptoRow, standIns := [], harness := (true, "2115d3ed2e7a1547ed2858191e98f1436f2c16dbbff1ff23cf6317fed2166d01"), looks := true }, kinds := [], alts := [], laidByText := true, laidKinds := [.data, .data, .data, .data], laidTests := true, laidLooks := .later }
def CodeReadsUptoCardSaid : Prop := Claim7.holds Tryd.pinned (.plain (OpenSpec.upto codeReadsSpec)) codeReadsUptoCard
end Rows
end Go.Proofs.YtdbdokjlcdogiaaDoor
