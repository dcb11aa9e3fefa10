/-
  No cell of these rows narrows 'for every input' (looked for: loops, veiled, ifaces, maps, wideKeys, modest, calm, conditions, laid).
  DERIVED. THE GIVEN ROWS OF THIS SEAT. 5 by the template 'for every input the law returns true; each argument reads behind the call as it read before'; 0 by the template 'total and deterministic' (their statements: YtmnpcignolofaaaTotals.lean).
  GIVEN WITH THE SEED: the statements are not yours to turn. If you find one false, say at which input.
  Laid BY PROGRAM, IN A SANDBOX (cutbox-rows.mjs): the forced cells as the released guide's own fill.sh prints them over the translation dd5d2bb7efcec471… (all of the seat's roots in one cut). By AI agents, Wed Nov 11 2026. No macro, syntax, notation, axiom, sorry.
-/
import Derived.Test.YtmnpcignolofaaaChecked
import GoSem.Claim
import GoSem.ClaimJoined
import GoSem.ClaimMapViews
import Derived.JoinedTies
import Derived.KernelRfl
namespace Go.Proofs.Ytmnpcignolofaaa
/- THE CELL 'sum', in the pinned program and in every row, IS THE sha256 OF THE DUMP (.gsa) THAT YtmnpcignolofaaaProg.lean LOADS. Nothing in Lean hashes anything: it is a label: what it is worth is what the hold of that sum in a sandbox is worth. -/
noncomputable def Try.pinned : Pinned := { name := "ytmnpcignolofaaa", sum := "dd5d2bb7efcec47180f740f800961c9052fd5499420bf2e3571e0b30b962ea91", checked := Try.checked }
namespace Rows
def none {H : Type} : Left H := { results := [], args := [] }

/-- 'codicillaw19.DiffShortest': WHATEVER THE INPUT: true; the input reads as it did. -/
def diffShortestSpec : ChangeSpec := { name := "diffShortest", fn := fun _ => fun
  | [d1, d2] => { results := [.lit (.bool true)], args := [d1, d2] }
  | _ => none }
def diffShortestRow : OpenClaim := { program := "ytmnpcignolofaaa", sum := "dd5d2bb7efcec47180f740f800961c9052fd5499420bf2e3571e0b30b962ea91", func := "codicil/codicillaw19.DiffShortest", spec := "diffShortest", apart := false }
def DiffShortestSaid : Prop := diffShortestRow.holds Try.pinned (OpenSpec.ofChange diffShortestSpec)

/-- ITS FALSE NEIGHBOUR: 'it returns false'. Refute it at one input. -/
def diffShortestWrong : ChangeSpec := { name := "diffShortest", fn := fun _ => fun
  | [d1, d2] => { results := [.lit (.bool false)], args := [d1, d2] }
  | _ => none }
def DiffShortestWrongFalsely : Prop := diffShortestRow.holds Try.pinned (OpenSpec.ofChange diffShortestWrong)

/-- 'codicillaw19.DiffMetric': WHATEVER THE INPUT: true; the input reads as it did. -/
def diffMetricSpec : ChangeSpec := { name := "diffMetric", fn := fun _ => fun
  | [d1, d2, d3] => { results := [.lit (.bool true)], args := [d1, d2, d3] }
  | _ => none }
def diffMetricRow : OpenClaim := { program := "ytmnpcignolofaaa", sum := "dd5d2bb7efcec47180f740f800961c9052fd5499420bf2e3571e0b30b962ea91", func := "codicil/codicillaw19.DiffMetric", spec := "diffMetric", apart := false }
def DiffMetricSaid : Prop := diffMetricRow.holds Try.pinned (OpenSpec.ofChange diffMetricSpec)

/-- ITS FALSE NEIGHBOUR: 'it returns false'. Refute it at one input. -/
def diffMetricWrong : ChangeSpec := { name := "diffMetric", fn := fun _ => fun
  | [d1, d2, d3] => { results := [.lit (.bool false)], args := [d1, d2, d3] }
  | _ => none }
def DiffMetricWrongFalsely : Prop := diffMetricRow.holds Try.pinned (OpenSpec.ofChange diffMetricWrong)

/-- 'codicillaw19.DiffWays': WHATEVER THE INPUT: true; the input reads as it did. -/
def diffWaysSpec : ChangeSpec := { name := "diffWays", fn := fun _ => fun
  | [d1, d2] => { results := [.lit (.bool true)], args := [d1, d2] }
  | _ => none }
def diffWaysRow : OpenClaim := { program := "ytmnpcignolofaaa", sum := "dd5d2bb7efcec47180f740f800961c9052fd5499420bf2e3571e0b30b962ea91", func := "codicil/codicillaw19.DiffWays", spec := "diffWays", inPlace := ["internal/abi.NoEscape"], apart := false }
def DiffWaysSaid : Prop := diffWaysRow.holds Try.pinned (OpenSpec.ofChange diffWaysSpec)

/-- ITS FALSE NEIGHBOUR: 'it returns false'. Refute it at one input. -/
def diffWaysWrong : ChangeSpec := { name := "diffWays", fn := fun _ => fun
  | [d1, d2] => { results := [.lit (.bool false)], args := [d1, d2] }
  | _ => none }
def DiffWaysWrongFalsely : Prop := diffWaysRow.holds Try.pinned (OpenSpec.ofChange diffWaysWrong)

/-- 'codicillaw19.DiffMemory': WHATEVER THE INPUT: true; the input reads as it did. -/
def diffMemorySpec : ChangeSpec := { name := "diffMemory", fn := fun _ => fun
  | [d1, d2] => { results := [.lit (.bool true)], args := [d1, d2] }
  | _ => none }
def diffMemoryRow : OpenClaim := { program := "ytmnpcignolofaaa", sum := "dd5d2bb7efcec47180f740f800961c9052fd5499420bf2e3571e0b30b962ea91", func := "codicil/codicillaw19.DiffMemory", spec := "diffMemory", inPlace := ["slices.overlaps[string]"], unfollowed := true, recurses := true, apart := false }
def DiffMemorySaid : Prop := diffMemoryRow.holds Try.pinned (OpenSpec.ofChange diffMemorySpec)

/-- ITS FALSE NEIGHBOUR: 'it returns false'. Refute it at one input. -/
def diffMemoryWrong : ChangeSpec := { name := "diffMemory", fn := fun _ => fun
  | [d1, d2] => { results := [.lit (.bool false)], args := [d1, d2] }
  | _ => none }
def DiffMemoryWrongFalsely : Prop := diffMemoryRow.holds Try.pinned (OpenSpec.ofChange diffMemoryWrong)

/-- 'codiciltop.WholePatches': WHATEVER THE INPUT: true; the input reads as it did. -/
def wholePatchesSpec : ChangeSpec := { name := "wholePatches", fn := fun _ => fun
  | [d1, d2, d3] => { results := [.lit (.bool true)], args := [d1, d2, d3] }
  | _ => none }
def wholePatchesRow : OpenClaim := { program := "ytmnpcignolofaaa", sum := "dd5d2bb7efcec47180f740f800961c9052fd5499420bf2e3571e0b30b962ea91", func := "codicil/codiciltop.WholePatches", spec := "wholePatches", inPlace := ["internal/abi.NoEscape", "slices.overlaps[string]"], unfollowed := true, recurses := true, apart := false }
def WholePatchesSaid : Prop := wholePatchesRow.holds Try.pinned (OpenSpec.ofChange wholePatchesSpec)

/-- ITS FALSE NEIGHBOUR: 'it returns false'. Refute it at one input. -/
def wholePatchesWrong : ChangeSpec := { name := "wholePatches", fn := fun _ => fun
  | [d1, d2, d3] => { results := [.lit (.bool false)], args := [d1, d2, d3] }
  | _ => none }
def WholePatchesWrongFalsely : Prop := wholePatchesRow.holds Try.pinned (OpenSpec.ofChange wholePatchesWrong)

/- THE SECOND FORM. 'bulk': how many values and letters a reading holds, each counted each time it is reached (what is shared counts as often as it is met; a slice's spare places count too). A statement '..UptoSaid' is the law's where the arguments, and the package variables that the reading takes, are together of bulk at most 1048576: NARROWER than '..Said'. Prove '..Said' where nothing that the law and all that it calls make is longer than what came in: it says more and counts as full. Else prove '..UptoSaid'. A law counts once. -/
mutual
def uptoBulk {H : Type} : DataW H → Nat
  | .lit (.string bytes) => bytes.length + 1
  | .lit _ => 1
  | .nil => 1
  | .ptr d => uptoBulk d + 1
  | .slice elems spare => uptoBulkAll elems + uptoBulkAll spare + 1
  | .agg parts => uptoBulkAll parts + 1
  | .iface _ d => uptoBulk d + 1
  | .map entries => uptoBulkEntries entries + 1
  | .held _ => 1
def uptoBulkAll {H : Type} : List (DataW H) → Nat
  | [] => 0
  | d :: r => uptoBulk d + uptoBulkAll r
def uptoBulkEntries {H : Type} : List (Lit × DataW H) → Nat
  | [] => 0
  | x :: r => uptoBulkEntry x + uptoBulkEntries r
def uptoBulkEntry {H : Type} : Lit × DataW H → Nat
  | (.string bytes, d) => bytes.length + uptoBulk d + 1
  | (_, d) => uptoBulk d + 1
 end
def uptoSmall : (H : Type) → List (DataW H) → Bool := fun _ ds => decide (uptoBulkAll ds ≤ 1048576)
def OpenSpec.upto (s : _root_.Go.ChangeSpec) : _root_.Go.OpenSpec := { _root_.Go.OpenSpec.ofChange s with cond := some uptoSmall }

/-- 'codicillaw19.DiffShortest', WHERE WHAT IT READS IS OF BULK AT MOST 1048576: true; the input reads as it did. -/
def diffShortestUptoRow : OpenClaim := { program := "ytmnpcignolofaaa", sum := "dd5d2bb7efcec47180f740f800961c9052fd5499420bf2e3571e0b30b962ea91", func := "codicil/codicillaw19.DiffShortest", spec := "diffShortest", apart := false, narrowed := true }
def DiffShortestUptoSaid : Prop := diffShortestUptoRow.holds Try.pinned (OpenSpec.upto diffShortestSpec)

/-- 'codicillaw19.DiffMetric', WHERE WHAT IT READS IS OF BULK AT MOST 1048576: true; the input reads as it did. -/
def diffMetricUptoRow : OpenClaim := { program := "ytmnpcignolofaaa", sum := "dd5d2bb7efcec47180f740f800961c9052fd5499420bf2e3571e0b30b962ea91", func := "codicil/codicillaw19.DiffMetric", spec := "diffMetric", apart := false, narrowed := true }
def DiffMetricUptoSaid : Prop := diffMetricUptoRow.holds Try.pinned (OpenSpec.upto diffMetricSpec)

/-- 'codicillaw19.DiffWays', WHERE WHAT IT READS IS OF BULK AT MOST 1048576: true; the input reads as it did. -/
def diffWaysUptoRow : OpenClaim := { program := "ytmnpcignolofaaa", sum := "dd5d2bb7efcec47180f740f800961c9052fd5499420bf2e3571e0b30b962ea91", func := "codicil/codicillaw19.DiffWays", spec := "diffWays", inPlace := ["internal/abi.NoEscape"], apart := false, narrowed := true }
def DiffWaysUptoSaid : Prop := diffWaysUptoRow.holds Try.pinned (OpenSpec.upto diffWaysSpec)

/-- 'codicillaw19.DiffMemory', WHERE WHAT IT READS IS OF BULK AT MOST 1048576: true; the input reads as it did. -/
def diffMemoryUptoRow : OpenClaim := { program := "ytmnpcignolofaaa", sum := "dd5d2bb7efcec47180f740f800961c9052fd5499420bf2e3571e0b30b962ea91", func := "codicil/codicillaw19.DiffMemory", spec := "diffMemory", inPlace := ["slices.overlaps[string]"], unfollowed := true, recurses := true, apart := false, narrowed := true }
def DiffMemoryUptoSaid : Prop := diffMemoryUptoRow.holds Try.pinned (OpenSpec.upto diffMemorySpec)

/-- 'codiciltop.WholePatches', WHERE WHAT IT READS IS OF BULK AT MOST 1048576: true; the input reads as it did. -/
def wholePatchesUptoRow : OpenClaim := { program := "ytmnpcignolofaaa", sum := "dd5d2bb7efcec47180f740f800961c9052fd5499420bf2e3571e0b30b962ea91", func := "codicil/codiciltop.WholePatches", spec := "wholePatches", inPlace := ["internal/abi.NoEscape", "slices.overlaps[string]"], unfollowed := true, recurses := true, apart := false, narrowed := true }
def WholePatchesUptoSaid : Prop := wholePatchesUptoRow.holds Try.pinned (OpenSpec.upto wholePatchesSpec)

end Rows
end Go.Proofs.Ytmnpcignolofaaa
