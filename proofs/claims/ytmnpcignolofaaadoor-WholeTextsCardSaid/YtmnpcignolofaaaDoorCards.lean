/-
  DERIVED. GIVEN WITH THE SEED: THE CARDS: each row of YtmnpcignolofaaaDoorRows.lean that lists a variable, with what it lists TIED to the program's text (the seventh form; the later family's looks); each row that meets fmt, with fmt's text TOLD by the authors' own Lean function (tested against real Go, not proved from fmt's source: count such statements apart). THE CARD IS WHAT COUNTS. Prove the row's statement (the work); the ties are given (YtmnpcignolofaaaDoorTie.lean); close each card by the builder's one call (the guide's Derived/Test/ToyasCard.lean, 'card_holds'). Laid BY PROGRAM, IN A SANDBOX (cutbox-door.mjs). By AI agents, Wed Nov 11 2026. No macro, syntax, notation, axiom, sorry.
-/
import Derived.Test.YtmnpcignolofaaaDoorRows
import GoSem.ClaimSeven
namespace Go.Proofs.YtmnpcignolofaaaDoor
namespace Rows

/-- THE TIED CARD OF 'codicillaw19.DiffLines'. -/
def diffLinesCard : Claim7 := { stood := { row := diffLinesRow, standIns := [], harness := (true, "d7af22c8386d2e8f8d9d3dec259cc9657e4e598af1c6f2b02d56272d8df07ae9"), looks := false }, kinds := [], alts := [], laidByText := true, laidKinds := [.data, .pinned], laidTests := true, laidLooks := .later }
def DiffLinesCardSaid : Prop := Claim7.holds Tryd.pinned (.plain (OpenSpec.ofChange diffLinesSpec)) diffLinesCard

/-- THE TIED CARD OF 'codicillaw19.DiffFixed'. -/
def diffFixedCard : Claim7 := { stood := { row := diffFixedRow, standIns := [], harness := (true, "d7af22c8386d2e8f8d9d3dec259cc9657e4e598af1c6f2b02d56272d8df07ae9"), looks := false }, kinds := [], alts := [], laidByText := true, laidKinds := [.data, .pinned], laidTests := true, laidLooks := .later }
def DiffFixedCardSaid : Prop := Claim7.holds Tryd.pinned (.plain (OpenSpec.ofChange diffFixedSpec)) diffFixedCard

/-- THE TIED CARD OF 'codicillaw21.MergeThrees'. -/
def mergeThreesCard : Claim7 := { stood := { row := mergeThreesRow, standIns := [], harness := (true, "d7af22c8386d2e8f8d9d3dec259cc9657e4e598af1c6f2b02d56272d8df07ae9"), looks := false }, kinds := [], alts := [], laidByText := true, laidKinds := [.data, .pinned], laidTests := true, laidLooks := .later }
def MergeThreesCardSaid : Prop := Claim7.holds Tryd.pinned (.plain (OpenSpec.ofChange mergeThreesSpec)) mergeThreesCard

/-- THE TIED CARD OF 'codicillaw21.MergeIdle'. -/
def mergeIdleCard : Claim7 := { stood := { row := mergeIdleRow, standIns := [], harness := (true, "d7af22c8386d2e8f8d9d3dec259cc9657e4e598af1c6f2b02d56272d8df07ae9"), looks := false }, kinds := [], alts := [], laidByText := true, laidKinds := [.data, .pinned], laidTests := true, laidLooks := .later }
def MergeIdleCardSaid : Prop := Claim7.holds Tryd.pinned (.plain (OpenSpec.ofChange mergeIdleSpec)) mergeIdleCard

/-- THE TIED CARD OF 'codicillaw21.MergeSides'. -/
def mergeSidesCard : Claim7 := { stood := { row := mergeSidesRow, standIns := [], harness := (true, "d7af22c8386d2e8f8d9d3dec259cc9657e4e598af1c6f2b02d56272d8df07ae9"), looks := false }, kinds := [], alts := [], laidByText := true, laidKinds := [.data, .pinned], laidTests := true, laidLooks := .later }
def MergeSidesCardSaid : Prop := Claim7.holds Tryd.pinned (.plain (OpenSpec.ofChange mergeSidesSpec)) mergeSidesCard

/-- THE TIED CARD OF 'codicillaw21.MergeFixed'. -/
def mergeFixedCard : Claim7 := { stood := { row := mergeFixedRow, standIns := [], harness := (true, "d7af22c8386d2e8f8d9d3dec259cc9657e4e598af1c6f2b02d56272d8df07ae9"), looks := false }, kinds := [], alts := [], laidByText := true, laidKinds := [.data, .pinned], laidTests := true, laidLooks := .later }
def MergeFixedCardSaid : Prop := Claim7.holds Tryd.pinned (.plain (OpenSpec.ofChange mergeFixedSpec)) mergeFixedCard

/-- THE TIED CARD OF 'codicillaw21.MergeMemory'. -/
def mergeMemoryCard : Claim7 := { stood := { row := mergeMemoryRow, standIns := [], harness := (true, "d7af22c8386d2e8f8d9d3dec259cc9657e4e598af1c6f2b02d56272d8df07ae9"), looks := false }, kinds := [], alts := [], laidByText := true, laidKinds := [.data, .pinned], laidTests := true, laidLooks := .later }
def MergeMemoryCardSaid : Prop := Claim7.holds Tryd.pinned (.plain (OpenSpec.ofChange mergeMemorySpec)) mergeMemoryCard

/-- THE TIED CARD OF 'codiciltop.WholeTexts'. -/
def wholeTextsCard : Claim7 := { stood := { row := wholeTextsRow, standIns := [], harness := (true, "d7af22c8386d2e8f8d9d3dec259cc9657e4e598af1c6f2b02d56272d8df07ae9"), looks := false }, kinds := [], alts := [], laidByText := true, laidKinds := [.data, .pinned], laidTests := true, laidLooks := .later }
def WholeTextsCardSaid : Prop := Claim7.holds Tryd.pinned (.plain (OpenSpec.ofChange wholeTextsSpec)) wholeTextsCard

/-- THE SECOND FORM's CARD OF 'codicillaw19.DiffLines'. -/
def diffLinesUptoCard : Claim7 := { stood := { row := diffLinesUptoRow, standIns := [], harness := (true, "d7af22c8386d2e8f8d9d3dec259cc9657e4e598af1c6f2b02d56272d8df07ae9"), looks := false }, kinds := [], alts := [], laidByText := true, laidKinds := [.data, .pinned], laidTests := true, laidLooks := .later }
def DiffLinesUptoCardSaid : Prop := Claim7.holds Tryd.pinned (.plain (OpenSpec.upto diffLinesSpec)) diffLinesUptoCard

/-- THE SECOND FORM's CARD OF 'codicillaw19.DiffFixed'. -/
def diffFixedUptoCard : Claim7 := { stood := { row := diffFixedUptoRow, standIns := [], harness := (true, "d7af22c8386d2e8f8d9d3dec259cc9657e4e598af1c6f2b02d56272d8df07ae9"), looks := false }, kinds := [], alts := [], laidByText := true, laidKinds := [.data, .pinned], laidTests := true, laidLooks := .later }
def DiffFixedUptoCardSaid : Prop := Claim7.holds Tryd.pinned (.plain (OpenSpec.upto diffFixedSpec)) diffFixedUptoCard

/-- THE SECOND FORM's CARD OF 'codicillaw21.MergeThrees'. -/
def mergeThreesUptoCard : Claim7 := { stood := { row := mergeThreesUptoRow, standIns := [], harness := (true, "d7af22c8386d2e8f8d9d3dec259cc9657e4e598af1c6f2b02d56272d8df07ae9"), looks := false }, kinds := [], alts := [], laidByText := true, laidKinds := [.data, .pinned], laidTests := true, laidLooks := .later }
def MergeThreesUptoCardSaid : Prop := Claim7.holds Tryd.pinned (.plain (OpenSpec.upto mergeThreesSpec)) mergeThreesUptoCard

/-- THE SECOND FORM's CARD OF 'codicillaw21.MergeIdle'. -/
def mergeIdleUptoCard : Claim7 := { stood := { row := mergeIdleUptoRow, standIns := [], harness := (true, "d7af22c8386d2e8f8d9d3dec259cc9657e4e598af1c6f2b02d56272d8df07ae9"), looks := false }, kinds := [], alts := [], laidByText := true, laidKinds := [.data, .pinned], laidTests := true, laidLooks := .later }
def MergeIdleUptoCardSaid : Prop := Claim7.holds Tryd.pinned (.plain (OpenSpec.upto mergeIdleSpec)) mergeIdleUptoCard

/-- THE SECOND FORM's CARD OF 'codicillaw21.MergeSides'. -/
def mergeSidesUptoCard : Claim7 := { stood := { row := mergeSidesUptoRow, standIns := [], harness := (true, "d7af22c8386d2e8f8d9d3dec259cc9657e4e598af1c6f2b02d56272d8df07ae9"), looks := false }, kinds := [], alts := [], laidByText := true, laidKinds := [.data, .pinned], laidTests := true, laidLooks := .later }
def MergeSidesUptoCardSaid : Prop := Claim7.holds Tryd.pinned (.plain (OpenSpec.upto mergeSidesSpec)) mergeSidesUptoCard

/-- THE SECOND FORM's CARD OF 'codicillaw21.MergeFixed'. -/
def mergeFixedUptoCard : Claim7 := { stood := { row := mergeFixedUptoRow, standIns := [], harness := (true, "d7af22c8386d2e8f8d9d3dec259cc9657e4e598af1c6f2b02d56272d8df07ae9"), looks := false }, kinds := [], alts := [], laidByText := true, laidKinds := [.data, .pinned], laidTests := true, laidLooks := .later }
def MergeFixedUptoCardSaid : Prop := Claim7.holds Tryd.pinned (.plain (OpenSpec.upto mergeFixedSpec)) mergeFixedUptoCard

/-- THE SECOND FORM's CARD OF 'codicillaw21.MergeMemory'. -/
def mergeMemoryUptoCard : Claim7 := { stood := { row := mergeMemoryUptoRow, standIns := [], harness := (true, "d7af22c8386d2e8f8d9d3dec259cc9657e4e598af1c6f2b02d56272d8df07ae9"), looks := false }, kinds := [], alts := [], laidByText := true, laidKinds := [.data, .pinned], laidTests := true, laidLooks := .later }
def MergeMemoryUptoCardSaid : Prop := Claim7.holds Tryd.pinned (.plain (OpenSpec.upto mergeMemorySpec)) mergeMemoryUptoCard

/-- THE SECOND FORM's CARD OF 'codiciltop.WholeTexts'. -/
def wholeTextsUptoCard : Claim7 := { stood := { row := wholeTextsUptoRow, standIns := [], harness := (true, "d7af22c8386d2e8f8d9d3dec259cc9657e4e598af1c6f2b02d56272d8df07ae9"), looks := false }, kinds := [], alts := [], laidByText := true, laidKinds := [.data, .pinned], laidTests := true, laidLooks := .later }
def WholeTextsUptoCardSaid : Prop := Claim7.holds Tryd.pinned (.plain (OpenSpec.upto wholeTextsSpec)) wholeTextsUptoCard
end Rows
end Go.Proofs.YtmnpcignolofaaaDoor
