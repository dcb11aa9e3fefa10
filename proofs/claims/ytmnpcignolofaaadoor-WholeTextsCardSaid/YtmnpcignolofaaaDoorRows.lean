/-
  NARROWER THAN 'FOR EVERY INPUT', by the rows' own cells (each row's printed sentence says how): DiffLines: laid · DiffFixed: laid · MergeThrees: laid · MergeIdle: laid · MergeSides: laid · MergeFixed: laid · MergeMemory: laid · WholeTexts: laid.
  DERIVED. THE GIVEN ROWS OF THIS SEAT. 8 by the template 'for every input the law returns true; each argument reads behind the call as it read before'; 0 by the template 'total and deterministic' (their statements: YtmnpcignolofaaaDoorTotals.lean).
  GIVEN WITH THE SEED: the statements are not yours to turn. If you find one false, say at which input.
  Laid BY PROGRAM, IN A SANDBOX (cutbox-rows.mjs): the forced cells as the released guide's own fill.sh prints them over the translation 0382a225ec4d84d9… (all of the seat's roots in one cut). By AI agents, Wed Nov 11 2026. No macro, syntax, notation, axiom, sorry.
-/
import Derived.Test.YtmnpcignolofaaaDoorChecked
import GoSem.PinnedTables
import GoSem.Claim
import GoSem.ClaimJoined
import GoSem.ClaimMapViews
import Derived.JoinedTies
import Derived.KernelRfl
namespace Go.Proofs.YtmnpcignolofaaaDoor
/- THE CELL 'sum', in the pinned program and in every row, IS THE sha256 OF THE DUMP (.gsa) THAT YtmnpcignolofaaaDoorProg.lean LOADS. Nothing in Lean hashes anything: it is a label: what it is worth is what the hold of that sum in a sandbox is worth. -/
noncomputable def Tryd.pinned : Pinned := { name := "ytmnpcignolofaaadoor", sum := "0382a225ec4d84d99c9940f6d9ea9052901bd2f38a299a434534bf8dcd6af3d0", checked := Tryd.checked }
namespace Rows
def none {H : Type} : Left H := { results := [], args := [] }

/- WHAT THE LISTED PACKAGE-LEVEL VARIABLES READ AS WHEN THE CALL BEGINS. Each datum BY PROGRAM (the guide's laid-datum.mjs) off the statement by which the dump's own 'gosem.cut.vars' lays the variable. In a bare row this is a premise. The card (YtmnpcignolofaaaDoorCards.lean) ties it to the program's text. -/
def laid_unicode_utf8_acceptRanges {H : Type} : DataW H := .agg [.agg [.lit (.int .u8 128), .lit (.int .u8 191)], .agg [.lit (.int .u8 160), .lit (.int .u8 191)], .agg [.lit (.int .u8 128), .lit (.int .u8 159)], .agg [.lit (.int .u8 144), .lit (.int .u8 191)], .agg [.lit (.int .u8 128), .lit (.int .u8 143)], .agg [.lit (.int .u8 0), .lit (.int .u8 0)], .agg [.lit (.int .u8 0), .lit (.int .u8 0)], .agg [.lit (.int .u8 0), .lit (.int .u8 0)], .agg [.lit (.int .u8 0), .lit (.int .u8 0)], .agg [.lit (.int .u8 0), .lit (.int .u8 0)], .agg [.lit (.int .u8 0), .lit (.int .u8 0)], .agg [.lit (.int .u8 0), .lit (.int .u8 0)], .agg [.lit (.int .u8 0), .lit (.int .u8 0)], .agg [.lit (.int .u8 0), .lit (.int .u8 0)], .agg [.lit (.int .u8 0), .lit (.int .u8 0)], .agg [.lit (.int .u8 0), .lit (.int .u8 0)]]
/-- One of Go's own tables, pinned by name: the form's constant. -/
def laid_unicode_utf8_first : DataW Unit := Go.Pinned.utf8First

/-- 'codicillaw19.DiffLines': WHATEVER THE INPUT: true; the input reads as it did. -/
def diffLinesSpec : ChangeSpec := { name := "diffLines", fn := fun _ => fun
  | [d] => { results := [.lit (.bool true)], args := [d] }
  | _ => none }
def diffLinesRow : OpenClaim := { program := "ytmnpcignolofaaadoor", sum := "0382a225ec4d84d99c9940f6d9ea9052901bd2f38a299a434534bf8dcd6af3d0", func := "codicil/codicillaw19.DiffLines", spec := "diffLines", inPlace := ["internal/bytealg.IndexByte", "internal/bytealg.Index"], unfollowed := true, recurses := true, named := ["unicode/utf8.first", "unicode/utf8.acceptRanges", "internal/bytealg.MaxLen"], apart := false, laid := [("unicode/utf8.acceptRanges", laid_unicode_utf8_acceptRanges), ("unicode/utf8.first", laid_unicode_utf8_first)] }
def DiffLinesSaid : Prop := diffLinesRow.holds Tryd.pinned (OpenSpec.ofChange diffLinesSpec)

/-- ITS FALSE NEIGHBOUR: 'it returns false'. Refute it at one input. -/
def diffLinesWrong : ChangeSpec := { name := "diffLines", fn := fun _ => fun
  | [d] => { results := [.lit (.bool false)], args := [d] }
  | _ => none }
def DiffLinesWrongFalsely : Prop := diffLinesRow.holds Tryd.pinned (OpenSpec.ofChange diffLinesWrong)

/-- 'codicillaw19.DiffFixed': WHATEVER THE INPUT: true; the input reads as it did. -/
def diffFixedSpec : ChangeSpec := { name := "diffFixed", fn := fun _ => fun
  | [] => { results := [.lit (.bool true)], args := [] }
  | _ => none }
def diffFixedRow : OpenClaim := { program := "ytmnpcignolofaaadoor", sum := "0382a225ec4d84d99c9940f6d9ea9052901bd2f38a299a434534bf8dcd6af3d0", func := "codicil/codicillaw19.DiffFixed", spec := "diffFixed", inPlace := ["internal/abi.NoEscape", "internal/bytealg.IndexByte", "internal/bytealg.Index", "slices.overlaps[string]"], unfollowed := true, recurses := true, named := ["unicode/utf8.first", "unicode/utf8.acceptRanges", "internal/bytealg.MaxLen"], apart := false, laid := [("unicode/utf8.acceptRanges", laid_unicode_utf8_acceptRanges), ("unicode/utf8.first", laid_unicode_utf8_first)] }
def DiffFixedSaid : Prop := diffFixedRow.holds Tryd.pinned (OpenSpec.ofChange diffFixedSpec)

/-- ITS FALSE NEIGHBOUR: 'it returns false'. Refute it at one input. -/
def diffFixedWrong : ChangeSpec := { name := "diffFixed", fn := fun _ => fun
  | [] => { results := [.lit (.bool false)], args := [] }
  | _ => none }
def DiffFixedWrongFalsely : Prop := diffFixedRow.holds Tryd.pinned (OpenSpec.ofChange diffFixedWrong)

/-- 'codicillaw21.MergeThrees': WHATEVER THE INPUT: true; the input reads as it did. -/
def mergeThreesSpec : ChangeSpec := { name := "mergeThrees", fn := fun _ => fun
  | [d1, d2, d3, d4] => { results := [.lit (.bool true)], args := [d1, d2, d3, d4] }
  | _ => none }
def mergeThreesRow : OpenClaim := { program := "ytmnpcignolofaaadoor", sum := "0382a225ec4d84d99c9940f6d9ea9052901bd2f38a299a434534bf8dcd6af3d0", func := "codicil/codicillaw21.MergeThrees", spec := "mergeThrees", inPlace := ["internal/bytealg.IndexByte", "internal/bytealg.Index", "internal/bytealg.IndexByteString", "internal/bytealg.IndexString", "internal/abi.NoEscape", "internal/bytealg.MakeNoZero"], unfollowed := true, recurses := true, named := ["unicode/utf8.first", "unicode/utf8.acceptRanges", "internal/bytealg.MaxLen"], apart := false, laid := [("unicode/utf8.acceptRanges", laid_unicode_utf8_acceptRanges), ("unicode/utf8.first", laid_unicode_utf8_first)] }
def MergeThreesSaid : Prop := mergeThreesRow.holds Tryd.pinned (OpenSpec.ofChange mergeThreesSpec)

/-- ITS FALSE NEIGHBOUR: 'it returns false'. Refute it at one input. -/
def mergeThreesWrong : ChangeSpec := { name := "mergeThrees", fn := fun _ => fun
  | [d1, d2, d3, d4] => { results := [.lit (.bool false)], args := [d1, d2, d3, d4] }
  | _ => none }
def MergeThreesWrongFalsely : Prop := mergeThreesRow.holds Tryd.pinned (OpenSpec.ofChange mergeThreesWrong)

/-- 'codicillaw21.MergeIdle': WHATEVER THE INPUT: true; the input reads as it did. -/
def mergeIdleSpec : ChangeSpec := { name := "mergeIdle", fn := fun _ => fun
  | [d1, d2, d3] => { results := [.lit (.bool true)], args := [d1, d2, d3] }
  | _ => none }
def mergeIdleRow : OpenClaim := { program := "ytmnpcignolofaaadoor", sum := "0382a225ec4d84d99c9940f6d9ea9052901bd2f38a299a434534bf8dcd6af3d0", func := "codicil/codicillaw21.MergeIdle", spec := "mergeIdle", inPlace := ["internal/bytealg.IndexByte", "internal/bytealg.Index", "internal/bytealg.IndexByteString", "internal/bytealg.IndexString", "internal/abi.NoEscape", "internal/bytealg.MakeNoZero"], unfollowed := true, recurses := true, named := ["unicode/utf8.first", "unicode/utf8.acceptRanges", "internal/bytealg.MaxLen"], apart := false, laid := [("unicode/utf8.acceptRanges", laid_unicode_utf8_acceptRanges), ("unicode/utf8.first", laid_unicode_utf8_first)] }
def MergeIdleSaid : Prop := mergeIdleRow.holds Tryd.pinned (OpenSpec.ofChange mergeIdleSpec)

/-- ITS FALSE NEIGHBOUR: 'it returns false'. Refute it at one input. -/
def mergeIdleWrong : ChangeSpec := { name := "mergeIdle", fn := fun _ => fun
  | [d1, d2, d3] => { results := [.lit (.bool false)], args := [d1, d2, d3] }
  | _ => none }
def MergeIdleWrongFalsely : Prop := mergeIdleRow.holds Tryd.pinned (OpenSpec.ofChange mergeIdleWrong)

/-- 'codicillaw21.MergeSides': WHATEVER THE INPUT: true; the input reads as it did. -/
def mergeSidesSpec : ChangeSpec := { name := "mergeSides", fn := fun _ => fun
  | [d1, d2, d3, d4] => { results := [.lit (.bool true)], args := [d1, d2, d3, d4] }
  | _ => none }
def mergeSidesRow : OpenClaim := { program := "ytmnpcignolofaaadoor", sum := "0382a225ec4d84d99c9940f6d9ea9052901bd2f38a299a434534bf8dcd6af3d0", func := "codicil/codicillaw21.MergeSides", spec := "mergeSides", inPlace := ["internal/bytealg.IndexByte", "internal/bytealg.Index", "internal/bytealg.IndexByteString", "internal/bytealg.IndexString", "internal/abi.NoEscape", "internal/bytealg.MakeNoZero"], unfollowed := true, recurses := true, named := ["unicode/utf8.first", "unicode/utf8.acceptRanges", "internal/bytealg.MaxLen"], apart := false, laid := [("unicode/utf8.acceptRanges", laid_unicode_utf8_acceptRanges), ("unicode/utf8.first", laid_unicode_utf8_first)] }
def MergeSidesSaid : Prop := mergeSidesRow.holds Tryd.pinned (OpenSpec.ofChange mergeSidesSpec)

/-- ITS FALSE NEIGHBOUR: 'it returns false'. Refute it at one input. -/
def mergeSidesWrong : ChangeSpec := { name := "mergeSides", fn := fun _ => fun
  | [d1, d2, d3, d4] => { results := [.lit (.bool false)], args := [d1, d2, d3, d4] }
  | _ => none }
def MergeSidesWrongFalsely : Prop := mergeSidesRow.holds Tryd.pinned (OpenSpec.ofChange mergeSidesWrong)

/-- 'codicillaw21.MergeFixed': WHATEVER THE INPUT: true; the input reads as it did. -/
def mergeFixedSpec : ChangeSpec := { name := "mergeFixed", fn := fun _ => fun
  | [] => { results := [.lit (.bool true)], args := [] }
  | _ => none }
def mergeFixedRow : OpenClaim := { program := "ytmnpcignolofaaadoor", sum := "0382a225ec4d84d99c9940f6d9ea9052901bd2f38a299a434534bf8dcd6af3d0", func := "codicil/codicillaw21.MergeFixed", spec := "mergeFixed", inPlace := ["internal/bytealg.IndexByte", "internal/bytealg.Index", "internal/bytealg.IndexByteString", "internal/bytealg.IndexString", "internal/abi.NoEscape", "internal/bytealg.MakeNoZero"], unfollowed := true, recurses := true, named := ["unicode/utf8.first", "unicode/utf8.acceptRanges", "internal/bytealg.MaxLen"], apart := false, laid := [("unicode/utf8.acceptRanges", laid_unicode_utf8_acceptRanges), ("unicode/utf8.first", laid_unicode_utf8_first)] }
def MergeFixedSaid : Prop := mergeFixedRow.holds Tryd.pinned (OpenSpec.ofChange mergeFixedSpec)

/-- ITS FALSE NEIGHBOUR: 'it returns false'. Refute it at one input. -/
def mergeFixedWrong : ChangeSpec := { name := "mergeFixed", fn := fun _ => fun
  | [] => { results := [.lit (.bool false)], args := [] }
  | _ => none }
def MergeFixedWrongFalsely : Prop := mergeFixedRow.holds Tryd.pinned (OpenSpec.ofChange mergeFixedWrong)

/-- 'codicillaw21.MergeMemory': WHATEVER THE INPUT: true; the input reads as it did. -/
def mergeMemorySpec : ChangeSpec := { name := "mergeMemory", fn := fun _ => fun
  | [d1, d2, d3] => { results := [.lit (.bool true)], args := [d1, d2, d3] }
  | _ => none }
def mergeMemoryRow : OpenClaim := { program := "ytmnpcignolofaaadoor", sum := "0382a225ec4d84d99c9940f6d9ea9052901bd2f38a299a434534bf8dcd6af3d0", func := "codicil/codicillaw21.MergeMemory", spec := "mergeMemory", inPlace := ["internal/bytealg.IndexByte", "internal/bytealg.Index", "internal/bytealg.IndexByteString", "internal/bytealg.IndexString", "internal/abi.NoEscape", "internal/bytealg.MakeNoZero"], unfollowed := true, recurses := true, named := ["unicode/utf8.first", "unicode/utf8.acceptRanges", "internal/bytealg.MaxLen"], apart := false, laid := [("unicode/utf8.acceptRanges", laid_unicode_utf8_acceptRanges), ("unicode/utf8.first", laid_unicode_utf8_first)] }
def MergeMemorySaid : Prop := mergeMemoryRow.holds Tryd.pinned (OpenSpec.ofChange mergeMemorySpec)

/-- ITS FALSE NEIGHBOUR: 'it returns false'. Refute it at one input. -/
def mergeMemoryWrong : ChangeSpec := { name := "mergeMemory", fn := fun _ => fun
  | [d1, d2, d3] => { results := [.lit (.bool false)], args := [d1, d2, d3] }
  | _ => none }
def MergeMemoryWrongFalsely : Prop := mergeMemoryRow.holds Tryd.pinned (OpenSpec.ofChange mergeMemoryWrong)

/-- 'codiciltop.WholeTexts': WHATEVER THE INPUT: true; the input reads as it did. -/
def wholeTextsSpec : ChangeSpec := { name := "wholeTexts", fn := fun _ => fun
  | [d1, d2] => { results := [.lit (.bool true)], args := [d1, d2] }
  | _ => none }
def wholeTextsRow : OpenClaim := { program := "ytmnpcignolofaaadoor", sum := "0382a225ec4d84d99c9940f6d9ea9052901bd2f38a299a434534bf8dcd6af3d0", func := "codicil/codiciltop.WholeTexts", spec := "wholeTexts", inPlace := ["internal/abi.NoEscape", "internal/bytealg.IndexByte", "internal/bytealg.Index"], unfollowed := true, recurses := true, named := ["unicode/utf8.first", "unicode/utf8.acceptRanges", "internal/bytealg.MaxLen"], apart := false, laid := [("unicode/utf8.acceptRanges", laid_unicode_utf8_acceptRanges), ("unicode/utf8.first", laid_unicode_utf8_first)] }
def WholeTextsSaid : Prop := wholeTextsRow.holds Tryd.pinned (OpenSpec.ofChange wholeTextsSpec)

/-- ITS FALSE NEIGHBOUR: 'it returns false'. Refute it at one input. -/
def wholeTextsWrong : ChangeSpec := { name := "wholeTexts", fn := fun _ => fun
  | [d1, d2] => { results := [.lit (.bool false)], args := [d1, d2] }
  | _ => none }
def WholeTextsWrongFalsely : Prop := wholeTextsRow.holds Tryd.pinned (OpenSpec.ofChange wholeTextsWrong)

/- THE SECOND FORM. 'bulk': how many values and letters a reading holds, each counted each time it is reached (what is shared counts as often as it is met; a slice's spare places count too). A statement '..UptoSaid' is the law's where the arguments, and the package variables that the reading takes, are together of bulk at most 1048576: NARROWER than '..Said'. Prove '..Said' where nothing that the law and all that it calls make is longer than what came in: it says more and counts as full. Else prove '..UptoSaid'. A law counts once. -/
mutual
def uptoBulk {H : Type} : DataW H → Nat
  | .lit (.string bytes) => bytes.length + 1
  | .lit _ => 1
  | .nil => 1
  | .ptr d => uptoBulk d + 1
  | .slice elems spare => uptoBulkAll elems + uptoBulkAll spare + 1
  | .agg parts => uptoBulkAll parts + 1
  | .iface _ d => uptoBulk d + 1
  | .map entries => uptoBulkEntries entries + 1
  | .held _ => 1
def uptoBulkAll {H : Type} : List (DataW H) → Nat
  | [] => 0
  | d :: r => uptoBulk d + uptoBulkAll r
def uptoBulkEntries {H : Type} : List (Lit × DataW H) → Nat
  | [] => 0
  | x :: r => uptoBulkEntry x + uptoBulkEntries r
def uptoBulkEntry {H : Type} : Lit × DataW H → Nat
  | (.string bytes, d) => bytes.length + uptoBulk d + 1
  | (_, d) => uptoBulk d + 1
 end
def uptoSmall : (H : Type) → List (DataW H) → Bool := fun _ ds => decide (uptoBulkAll ds ≤ 1048576)
def OpenSpec.upto (s : _root_.Go.ChangeSpec) : _root_.Go.OpenSpec := { _root_.Go.OpenSpec.ofChange s with cond := some uptoSmall }

/-- 'codicillaw19.DiffLines', WHERE WHAT IT READS IS OF BULK AT MOST 1048576: true; the input reads as it did. -/
def diffLinesUptoRow : OpenClaim := { program := "ytmnpcignolofaaadoor", sum := "0382a225ec4d84d99c9940f6d9ea9052901bd2f38a299a434534bf8dcd6af3d0", func := "codicil/codicillaw19.DiffLines", spec := "diffLines", inPlace := ["internal/bytealg.IndexByte", "internal/bytealg.Index"], unfollowed := true, recurses := true, named := ["unicode/utf8.first", "unicode/utf8.acceptRanges", "internal/bytealg.MaxLen"], apart := false, laid := [("unicode/utf8.acceptRanges", laid_unicode_utf8_acceptRanges), ("unicode/utf8.first", laid_unicode_utf8_first)], narrowed := true }
def DiffLinesUptoSaid : Prop := diffLinesUptoRow.holds Tryd.pinned (OpenSpec.upto diffLinesSpec)

/-- 'codicillaw19.DiffFixed', WHERE WHAT IT READS IS OF BULK AT MOST 1048576: true; the input reads as it did. -/
def diffFixedUptoRow : OpenClaim := { program := "ytmnpcignolofaaadoor", sum := "0382a225ec4d84d99c9940f6d9ea9052901bd2f38a299a434534bf8dcd6af3d0", func := "codicil/codicillaw19.DiffFixed", spec := "diffFixed", inPlace := ["internal/abi.NoEscape", "internal/bytealg.IndexByte", "internal/bytealg.Index", "slices.overlaps[string]"], unfollowed := true, recurses := true, named := ["unicode/utf8.first", "unicode/utf8.acceptRanges", "internal/bytealg.MaxLen"], apart := false, laid := [("unicode/utf8.acceptRanges", laid_unicode_utf8_acceptRanges), ("unicode/utf8.first", laid_unicode_utf8_first)], narrowed := true }
def DiffFixedUptoSaid : Prop := diffFixedUptoRow.holds Tryd.pinned (OpenSpec.upto diffFixedSpec)

/-- 'codicillaw21.MergeThrees', WHERE WHAT IT READS IS OF BULK AT MOST 1048576: true; the input reads as it did. -/
def mergeThreesUptoRow : OpenClaim := { program := "ytmnpcignolofaaadoor", sum := "0382a225ec4d84d99c9940f6d9ea9052901bd2f38a299a434534bf8dcd6af3d0", func := "codicil/codicillaw21.MergeThrees", spec := "mergeThrees", inPlace := ["internal/bytealg.IndexByte", "internal/bytealg.Index", "internal/bytealg.IndexByteString", "internal/bytealg.IndexString", "internal/abi.NoEscape", "internal/bytealg.MakeNoZero"], unfollowed := true, recurses := true, named := ["unicode/utf8.first", "unicode/utf8.acceptRanges", "internal/bytealg.MaxLen"], apart := false, laid := [("unicode/utf8.acceptRanges", laid_unicode_utf8_acceptRanges), ("unicode/utf8.first", laid_unicode_utf8_first)], narrowed := true }
def MergeThreesUptoSaid : Prop := mergeThreesUptoRow.holds Tryd.pinned (OpenSpec.upto mergeThreesSpec)

/-- 'codicillaw21.MergeIdle', WHERE WHAT IT READS IS OF BULK AT MOST 1048576: true; the input reads as it did. -/
def mergeIdleUptoRow : OpenClaim := { program := "ytmnpcignolofaaadoor", sum := "0382a225ec4d84d99c9940f6d9ea9052901bd2f38a299a434534bf8dcd6af3d0", func := "codicil/codicillaw21.MergeIdle", spec := "mergeIdle", inPlace := ["internal/bytealg.IndexByte", "internal/bytealg.Index", "internal/bytealg.IndexByteString", "internal/bytealg.IndexString", "internal/abi.NoEscape", "internal/bytealg.MakeNoZero"], unfollowed := true, recurses := true, named := ["unicode/utf8.first", "unicode/utf8.acceptRanges", "internal/bytealg.MaxLen"], apart := false, laid := [("unicode/utf8.acceptRanges", laid_unicode_utf8_acceptRanges), ("unicode/utf8.first", laid_unicode_utf8_first)], narrowed := true }
def MergeIdleUptoSaid : Prop := mergeIdleUptoRow.holds Tryd.pinned (OpenSpec.upto mergeIdleSpec)

/-- 'codicillaw21.MergeSides', WHERE WHAT IT READS IS OF BULK AT MOST 1048576: true; the input reads as it did. -/
def mergeSidesUptoRow : OpenClaim := { program := "ytmnpcignolofaaadoor", sum := "0382a225ec4d84d99c9940f6d9ea9052901bd2f38a299a434534bf8dcd6af3d0", func := "codicil/codicillaw21.MergeSides", spec := "mergeSides", inPlace := ["internal/bytealg.IndexByte", "internal/bytealg.Index", "internal/bytealg.IndexByteString", "internal/bytealg.IndexString", "internal/abi.NoEscape", "internal/bytealg.MakeNoZero"], unfollowed := true, recurses := true, named := ["unicode/utf8.first", "unicode/utf8.acceptRanges", "internal/bytealg.MaxLen"], apart := false, laid := [("unicode/utf8.acceptRanges", laid_unicode_utf8_acceptRanges), ("unicode/utf8.first", laid_unicode_utf8_first)], narrowed := true }
def MergeSidesUptoSaid : Prop := mergeSidesUptoRow.holds Tryd.pinned (OpenSpec.upto mergeSidesSpec)

/-- 'codicillaw21.MergeFixed', WHERE WHAT IT READS IS OF BULK AT MOST 1048576: true; the input reads as it did. -/
def mergeFixedUptoRow : OpenClaim := { program := "ytmnpcignolofaaadoor", sum := "0382a225ec4d84d99c9940f6d9ea9052901bd2f38a299a434534bf8dcd6af3d0", func := "codicil/codicillaw21.MergeFixed", spec := "mergeFixed", inPlace := ["internal/bytealg.IndexByte", "internal/bytealg.Index", "internal/bytealg.IndexByteString", "internal/bytealg.IndexString", "internal/abi.NoEscape", "internal/bytealg.MakeNoZero"], unfollowed := true, recurses := true, named := ["unicode/utf8.first", "unicode/utf8.acceptRanges", "internal/bytealg.MaxLen"], apart := false, laid := [("unicode/utf8.acceptRanges", laid_unicode_utf8_acceptRanges), ("unicode/utf8.first", laid_unicode_utf8_first)], narrowed := true }
def MergeFixedUptoSaid : Prop := mergeFixedUptoRow.holds Tryd.pinned (OpenSpec.upto mergeFixedSpec)

/-- 'codicillaw21.MergeMemory', WHERE WHAT IT READS IS OF BULK AT MOST 1048576: true; the input reads as it did. -/
def mergeMemoryUptoRow : OpenClaim := { program := "ytmnpcignolofaaadoor", sum := "0382a225ec4d84d99c9940f6d9ea9052901bd2f38a299a434534bf8dcd6af3d0", func := "codicil/codicillaw21.MergeMemory", spec := "mergeMemory", inPlace := ["internal/bytealg.IndexByte", "internal/bytealg.Index", "internal/bytealg.IndexByteString", "internal/bytealg.IndexString", "internal/abi.NoEscape", "internal/bytealg.MakeNoZero"], unfollowed := true, recurses := true, named := ["unicode/utf8.first", "unicode/utf8.acceptRanges", "internal/bytealg.MaxLen"], apart := false, laid := [("unicode/utf8.acceptRanges", laid_unicode_utf8_acceptRanges), ("unicode/utf8.first", laid_unicode_utf8_first)], narrowed := true }
def MergeMemoryUptoSaid : Prop := mergeMemoryUptoRow.holds Tryd.pinned (OpenSpec.upto mergeMemorySpec)

/-- 'codiciltop.WholeTexts', WHERE WHAT IT READS IS OF BULK AT MOST 1048576: true; the input reads as it did. -/
def wholeTextsUptoRow : OpenClaim := { program := "ytmnpcignolofaaadoor", sum := "0382a225ec4d84d99c9940f6d9ea9052901bd2f38a299a434534bf8dcd6af3d0", func := "codicil/codiciltop.WholeTexts", spec := "wholeTexts", inPlace := ["internal/abi.NoEscape", "internal/bytealg.IndexByte", "internal/bytealg.Index"], unfollowed := true, recurses := true, named := ["unicode/utf8.first", "unicode/utf8.acceptRanges", "internal/bytealg.MaxLen"], apart := false, laid := [("unicode/utf8.acceptRanges", laid_unicode_utf8_acceptRanges), ("unicode/utf8.first", laid_unicode_utf8_first)], narrowed := true }
def WholeTextsUptoSaid : Prop := wholeTextsUptoRow.holds Tryd.pinned (OpenSpec.upto wholeTextsSpec)

end Rows
end Go.Proofs.YtmnpcignolofaaaDoor
