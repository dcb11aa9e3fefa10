/-
  DERIVED. GIVEN WITH THE SEED: THE CARDS: each row of YtkdklcamgcmifaaDoorRows.lean that lists a variable, with what it lists TIED to the program's text (the seventh form; the later family's looks); each row that meets fmt, with fmt's text TOLD by the authors' own Lean function (tested against real Go, not proved from fmt's source: count such statements apart). THE CARD IS WHAT COUNTS. Prove the row's statement (the work); the ties are given (YtkdklcamgcmifaaDoorTie.lean); close each card by the builder's one call (the guide's Derived/Test/ToyasCard.lean, 'card_holds'). Laid BY PROGRAM, IN A SANDBOX (cutbox-door.mjs). By AI agents, Wed Nov 11 2026. No macro, syntax, notation, axiom, sorry.
-/
import Derived.Test.YtkdklcamgcmifaaDoorRows
import GoSem.ClaimSeven
namespace Go.Proofs.YtkdklcamgcmifaaDoor
namespace Rows

/-- THE TIED CARD OF 'codicillaw03.InflateEnds'. -/
def inflateEndsCard : Claim7 := { stood := { row := inflateEndsRow, standIns := [], harness := (true, "d5fae052bc1570f2d0f0384c29e5733bd3198e0e9d652e98a060e230a4734d7a"), looks := false }, kinds := [], alts := [], laidByText := true, laidKinds := [.widerDeep], laidTests := true, laidLooks := .later }
def InflateEndsCardSaid : Prop := Claim7.holds Tryd.pinned (.plain (OpenSpec.ofChange inflateEndsSpec)) inflateEndsCard

/-- THE TIED CARD OF 'codicillaw03.InflateStored'. -/
def inflateStoredCard : Claim7 := { stood := { row := inflateStoredRow, standIns := [], harness := (true, "d5fae052bc1570f2d0f0384c29e5733bd3198e0e9d652e98a060e230a4734d7a"), looks := false }, kinds := [], alts := [], laidByText := true, laidKinds := [.widerDeep], laidTests := true, laidLooks := .later }
def InflateStoredCardSaid : Prop := Claim7.holds Tryd.pinned (.plain (OpenSpec.ofChange inflateStoredSpec)) inflateStoredCard

/-- THE TIED CARD OF 'codicillaw03.InflateFixed'. -/
def inflateFixedCard : Claim7 := { stood := { row := inflateFixedRow, standIns := [], harness := (true, "d5fae052bc1570f2d0f0384c29e5733bd3198e0e9d652e98a060e230a4734d7a"), looks := false }, kinds := [], alts := [], laidByText := true, laidKinds := [.widerDeep], laidTests := true, laidLooks := .later }
def InflateFixedCardSaid : Prop := Claim7.holds Tryd.pinned (.plain (OpenSpec.ofChange inflateFixedSpec)) inflateFixedCard

/-- THE TIED CARD OF 'codicillaw03.InflateMemory'. -/
def inflateMemoryCard : Claim7 := { stood := { row := inflateMemoryRow, standIns := [], harness := (true, "d5fae052bc1570f2d0f0384c29e5733bd3198e0e9d652e98a060e230a4734d7a"), looks := false }, kinds := [], alts := [], laidByText := true, laidKinds := [.widerDeep], laidTests := true, laidLooks := .later }
def InflateMemoryCardSaid : Prop := Claim7.holds Tryd.pinned (.plain (OpenSpec.ofChange inflateMemorySpec)) inflateMemoryCard

/-- THE TIED CARD OF 'codicillaw04.DeflateBack'. -/
def deflateBackCard : Claim7 := { stood := { row := deflateBackRow, standIns := [], harness := (true, "d5fae052bc1570f2d0f0384c29e5733bd3198e0e9d652e98a060e230a4734d7a"), looks := false }, kinds := [], alts := [], laidByText := true, laidKinds := [.widerDeep], laidTests := true, laidLooks := .later }
def DeflateBackCardSaid : Prop := Claim7.holds Tryd.pinned (.plain (OpenSpec.ofChange deflateBackSpec)) deflateBackCard

/-- THE TIED CARD OF 'codicillaw04.DeflateFixed'. -/
def deflateFixedCard : Claim7 := { stood := { row := deflateFixedRow, standIns := [], harness := (true, "d5fae052bc1570f2d0f0384c29e5733bd3198e0e9d652e98a060e230a4734d7a"), looks := false }, kinds := [], alts := [], laidByText := true, laidKinds := [.widerDeep], laidTests := true, laidLooks := .later }
def DeflateFixedCardSaid : Prop := Claim7.holds Tryd.pinned (.plain (OpenSpec.ofChange deflateFixedSpec)) deflateFixedCard

/-- THE TIED CARD OF 'codicillaw05.ZlibBack'. -/
def zlibBackCard : Claim7 := { stood := { row := zlibBackRow, standIns := [], harness := (true, "d5fae052bc1570f2d0f0384c29e5733bd3198e0e9d652e98a060e230a4734d7a"), looks := false }, kinds := [], alts := [], laidByText := true, laidKinds := [.widerDeep], laidTests := true, laidLooks := .later }
def ZlibBackCardSaid : Prop := Claim7.holds Tryd.pinned (.plain (OpenSpec.ofChange zlibBackSpec)) zlibBackCard

/-- THE TIED CARD OF 'codicillaw05.ZlibFixed'. -/
def zlibFixedCard : Claim7 := { stood := { row := zlibFixedRow, standIns := [], harness := (true, "d5fae052bc1570f2d0f0384c29e5733bd3198e0e9d652e98a060e230a4734d7a"), looks := false }, kinds := [], alts := [], laidByText := true, laidKinds := [.widerDeep], laidTests := true, laidLooks := .later }
def ZlibFixedCardSaid : Prop := Claim7.holds Tryd.pinned (.plain (OpenSpec.ofChange zlibFixedSpec)) zlibFixedCard

/-- THE TIED CARD OF 'codicillaw05.ZlibMemory'. -/
def zlibMemoryCard : Claim7 := { stood := { row := zlibMemoryRow, standIns := [], harness := (true, "d5fae052bc1570f2d0f0384c29e5733bd3198e0e9d652e98a060e230a4734d7a"), looks := false }, kinds := [], alts := [], laidByText := true, laidKinds := [.widerDeep], laidTests := true, laidLooks := .later }
def ZlibMemoryCardSaid : Prop := Claim7.holds Tryd.pinned (.plain (OpenSpec.ofChange zlibMemorySpec)) zlibMemoryCard

/-- THE SECOND FORM's CARD OF 'codicillaw03.InflateEnds'. -/
def inflateEndsUptoCard : Claim7 := { stood := { row := inflateEndsUptoRow, standIns := [], harness := (true, "d5fae052bc1570f2d0f0384c29e5733bd3198e0e9d652e98a060e230a4734d7a"), looks := false }, kinds := [], alts := [], laidByText := true, laidKinds := [.widerDeep], laidTests := true, laidLooks := .later }
def InflateEndsUptoCardSaid : Prop := Claim7.holds Tryd.pinned (.plain (OpenSpec.upto inflateEndsSpec)) inflateEndsUptoCard

/-- THE SECOND FORM's CARD OF 'codicillaw03.InflateStored'. -/
def inflateStoredUptoCard : Claim7 := { stood := { row := inflateStoredUptoRow, standIns := [], harness := (true, "d5fae052bc1570f2d0f0384c29e5733bd3198e0e9d652e98a060e230a4734d7a"), looks := false }, kinds := [], alts := [], laidByText := true, laidKinds := [.widerDeep], laidTests := true, laidLooks := .later }
def InflateStoredUptoCardSaid : Prop := Claim7.holds Tryd.pinned (.plain (OpenSpec.upto inflateStoredSpec)) inflateStoredUptoCard

/-- THE SECOND FORM's CARD OF 'codicillaw03.InflateFixed'. -/
def inflateFixedUptoCard : Claim7 := { stood := { row := inflateFixedUptoRow, standIns := [], harness := (true, "d5fae052bc1570f2d0f0384c29e5733bd3198e0e9d652e98a060e230a4734d7a"), looks := false }, kinds := [], alts := [], laidByText := true, laidKinds := [.widerDeep], laidTests := true, laidLooks := .later }
def InflateFixedUptoCardSaid : Prop := Claim7.holds Tryd.pinned (.plain (OpenSpec.upto inflateFixedSpec)) inflateFixedUptoCard

/-- THE SECOND FORM's CARD OF 'codicillaw03.InflateMemory'. -/
def inflateMemoryUptoCard : Claim7 := { stood := { row := inflateMemoryUptoRow, standIns := [], harness := (true, "d5fae052bc1570f2d0f0384c29e5733bd3198e0e9d652e98a060e230a4734d7a"), looks := false }, kinds := [], alts := [], laidByText := true, laidKinds := [.widerDeep], laidTests := true, laidLooks := .later }
def InflateMemoryUptoCardSaid : Prop := Claim7.holds Tryd.pinned (.plain (OpenSpec.upto inflateMemorySpec)) inflateMemoryUptoCard

/-- THE SECOND FORM's CARD OF 'codicillaw04.DeflateBack'. -/
def deflateBackUptoCard : Claim7 := { stood := { row := deflateBackUptoRow, standIns := [], harness := (true, "d5fae052bc1570f2d0f0384c29e5733bd3198e0e9d652e98a060e230a4734d7a"), looks := false }, kinds := [], alts := [], laidByText := true, laidKinds := [.widerDeep], laidTests := true, laidLooks := .later }
def DeflateBackUptoCardSaid : Prop := Claim7.holds Tryd.pinned (.plain (OpenSpec.upto deflateBackSpec)) deflateBackUptoCard

/-- THE SECOND FORM's CARD OF 'codicillaw04.DeflateFixed'. -/
def deflateFixedUptoCard : Claim7 := { stood := { row := deflateFixedUptoRow, standIns := [], harness := (true, "d5fae052bc1570f2d0f0384c29e5733bd3198e0e9d652e98a060e230a4734d7a"), looks := false }, kinds := [], alts := [], laidByText := true, laidKinds := [.widerDeep], laidTests := true, laidLooks := .later }
def DeflateFixedUptoCardSaid : Prop := Claim7.holds Tryd.pinned (.plain (OpenSpec.upto deflateFixedSpec)) deflateFixedUptoCard

/-- THE SECOND FORM's CARD OF 'codicillaw05.ZlibBack'. -/
def zlibBackUptoCard : Claim7 := { stood := { row := zlibBackUptoRow, standIns := [], harness := (true, "d5fae052bc1570f2d0f0384c29e5733bd3198e0e9d652e98a060e230a4734d7a"), looks := false }, kinds := [], alts := [], laidByText := true, laidKinds := [.widerDeep], laidTests := true, laidLooks := .later }
def ZlibBackUptoCardSaid : Prop := Claim7.holds Tryd.pinned (.plain (OpenSpec.upto zlibBackSpec)) zlibBackUptoCard

/-- THE SECOND FORM's CARD OF 'codicillaw05.ZlibFixed'. -/
def zlibFixedUptoCard : Claim7 := { stood := { row := zlibFixedUptoRow, standIns := [], harness := (true, "d5fae052bc1570f2d0f0384c29e5733bd3198e0e9d652e98a060e230a4734d7a"), looks := false }, kinds := [], alts := [], laidByText := true, laidKinds := [.widerDeep], laidTests := true, laidLooks := .later }
def ZlibFixedUptoCardSaid : Prop := Claim7.holds Tryd.pinned (.plain (OpenSpec.upto zlibFixedSpec)) zlibFixedUptoCard

/-- THE SECOND FORM's CARD OF 'codicillaw05.ZlibMemory'. -/
def zlibMemoryUptoCard : Claim7 := { stood := { row := zlibMemoryUptoRow, standIns := [], harness := (true, "d5fae052bc1570f2d0f0384c29e5733bd3198e0e9d652e98a060e230a4734d7a"), looks := false }, kinds := [], alts := [], laidByText := true, laidKinds := [.widerDeep], laidTests := true, laidLooks := .later }
def ZlibMemoryUptoCardSaid : Prop := Claim7.holds Tryd.pinned (.plain (OpenSpec.upto zlibMemorySpec)) zlibMemoryUptoCard
end Rows
end Go.Proofs.YtkdklcamgcmifaaDoor
