/-
  No cell of these rows narrows 'for every input' (looked for: loops, veiled, ifaces, maps, wideKeys, modest, calm, conditions, laid).
  DERIVED. THE GIVEN ROWS OF THIS SEAT. 12 by the template 'for every input the law returns true; each argument reads behind the call as it read before'; 0 by the template 'total and deterministic' (their statements: YtiocipmnmjpkfaaTotals.lean).
  GIVEN WITH THE SEED: the statements are not yours to turn. If you find one false, say at which input.
  Laid BY PROGRAM, IN A SANDBOX (cutbox-rows.mjs): the forced cells as the released guide's own fill.sh prints them over the translation f61dce0b377e563c… (all of the seat's roots in one cut). By AI agents, Wed Nov 11 2026. No macro, syntax, notation, axiom, sorry.
-/
import Derived.Test.YtiocipmnmjpkfaaChecked
import GoSem.Claim
import GoSem.ClaimJoined
import GoSem.ClaimMapViews
import Derived.JoinedTies
import Derived.KernelRfl
namespace Go.Proofs.Ytiocipmnmjpkfaa
/- THE CELL 'sum', in the pinned program and in every row, IS THE sha256 OF THE DUMP (.gsa) THAT YtiocipmnmjpkfaaProg.lean LOADS. Nothing in Lean hashes anything: it is a label: what it is worth is what the hold of that sum in a sandbox is worth. -/
noncomputable def Try.pinned : Pinned := { name := "ytiocipmnmjpkfaa", sum := "f61dce0b377e563c899e3977b65c02b5e16c914052a146b00c75f95272847df3", checked := Try.checked }
namespace Rows
def none {H : Type} : Left H := { results := [], args := [] }

/-- 'codicillaw02.NumPuts': WHATEVER THE INPUT: true; the input reads as it did. -/
def numPutsSpec : ChangeSpec := { name := "numPuts", fn := fun _ => fun
  | [d1, d2, d3] => { results := [.lit (.bool true)], args := [d1, d2, d3] }
  | _ => none }
def numPutsRow : OpenClaim := { program := "ytiocipmnmjpkfaa", sum := "f61dce0b377e563c899e3977b65c02b5e16c914052a146b00c75f95272847df3", func := "codicil/codicillaw02.NumPuts", spec := "numPuts", plainKeys := false, apart := false }
def NumPutsSaid : Prop := numPutsRow.holds Try.pinned (OpenSpec.ofChange numPutsSpec)

/-- ITS FALSE NEIGHBOUR: 'it returns false'. Refute it at one input. -/
def numPutsWrong : ChangeSpec := { name := "numPuts", fn := fun _ => fun
  | [d1, d2, d3] => { results := [.lit (.bool false)], args := [d1, d2, d3] }
  | _ => none }
def NumPutsWrongFalsely : Prop := numPutsRow.holds Try.pinned (OpenSpec.ofChange numPutsWrong)

/-- 'codicillaw02.NumMemory': WHATEVER THE INPUT: true; the input reads as it did. -/
def numMemorySpec : ChangeSpec := { name := "numMemory", fn := fun _ => fun
  | [d1, d2] => { results := [.lit (.bool true)], args := [d1, d2] }
  | _ => none }
def numMemoryRow : OpenClaim := { program := "ytiocipmnmjpkfaa", sum := "f61dce0b377e563c899e3977b65c02b5e16c914052a146b00c75f95272847df3", func := "codicil/codicillaw02.NumMemory", spec := "numMemory", plainKeys := false, apart := false }
def NumMemorySaid : Prop := numMemoryRow.holds Try.pinned (OpenSpec.ofChange numMemorySpec)

/-- ITS FALSE NEIGHBOUR: 'it returns false'. Refute it at one input. -/
def numMemoryWrong : ChangeSpec := { name := "numMemory", fn := fun _ => fun
  | [d1, d2] => { results := [.lit (.bool false)], args := [d1, d2] }
  | _ => none }
def NumMemoryWrongFalsely : Prop := numMemoryRow.holds Try.pinned (OpenSpec.ofChange numMemoryWrong)

/-- 'codicillaw02.NumOnce': WHATEVER THE INPUT: true; the input reads as it did. -/
def numOnceSpec : ChangeSpec := { name := "numOnce", fn := fun _ => fun
  | [d] => { results := [.lit (.bool true)], args := [d] }
  | _ => none }
def numOnceRow : OpenClaim := { program := "ytiocipmnmjpkfaa", sum := "f61dce0b377e563c899e3977b65c02b5e16c914052a146b00c75f95272847df3", func := "codicil/codicillaw02.NumOnce", spec := "numOnce", unfollowed := true, recurses := true, plainKeys := false, apart := false }
def NumOnceSaid : Prop := numOnceRow.holds Try.pinned (OpenSpec.ofChange numOnceSpec)

/-- ITS FALSE NEIGHBOUR: 'it returns false'. Refute it at one input. -/
def numOnceWrong : ChangeSpec := { name := "numOnce", fn := fun _ => fun
  | [d] => { results := [.lit (.bool false)], args := [d] }
  | _ => none }
def NumOnceWrongFalsely : Prop := numOnceRow.holds Try.pinned (OpenSpec.ofChange numOnceWrong)

/-- 'codicillaw02.NumThere': WHATEVER THE INPUT: true; the input reads as it did. -/
def numThereSpec : ChangeSpec := { name := "numThere", fn := fun _ => fun
  | [d1, d2, d3, d4] => { results := [.lit (.bool true)], args := [d1, d2, d3, d4] }
  | _ => none }
def numThereRow : OpenClaim := { program := "ytiocipmnmjpkfaa", sum := "f61dce0b377e563c899e3977b65c02b5e16c914052a146b00c75f95272847df3", func := "codicil/codicillaw02.NumThere", spec := "numThere", unfollowed := true, recurses := true, plainKeys := false, apart := false }
def NumThereSaid : Prop := numThereRow.holds Try.pinned (OpenSpec.ofChange numThereSpec)

/-- ITS FALSE NEIGHBOUR: 'it returns false'. Refute it at one input. -/
def numThereWrong : ChangeSpec := { name := "numThere", fn := fun _ => fun
  | [d1, d2, d3, d4] => { results := [.lit (.bool false)], args := [d1, d2, d3, d4] }
  | _ => none }
def NumThereWrongFalsely : Prop := numThereRow.holds Try.pinned (OpenSpec.ofChange numThereWrong)

/-- 'codicillaw02.NumTakes': WHATEVER THE INPUT: true; the input reads as it did. -/
def numTakesSpec : ChangeSpec := { name := "numTakes", fn := fun _ => fun
  | [d1, d2, d3] => { results := [.lit (.bool true)], args := [d1, d2, d3] }
  | _ => none }
def numTakesRow : OpenClaim := { program := "ytiocipmnmjpkfaa", sum := "f61dce0b377e563c899e3977b65c02b5e16c914052a146b00c75f95272847df3", func := "codicil/codicillaw02.NumTakes", spec := "numTakes", unfollowed := true, recurses := true, plainKeys := false, apart := false }
def NumTakesSaid : Prop := numTakesRow.holds Try.pinned (OpenSpec.ofChange numTakesSpec)

/-- ITS FALSE NEIGHBOUR: 'it returns false'. Refute it at one input. -/
def numTakesWrong : ChangeSpec := { name := "numTakes", fn := fun _ => fun
  | [d1, d2, d3] => { results := [.lit (.bool false)], args := [d1, d2, d3] }
  | _ => none }
def NumTakesWrongFalsely : Prop := numTakesRow.holds Try.pinned (OpenSpec.ofChange numTakesWrong)

/-- 'codicillaw02.NumFixed': WHATEVER THE INPUT: true; the input reads as it did. -/
def numFixedSpec : ChangeSpec := { name := "numFixed", fn := fun _ => fun
  | [] => { results := [.lit (.bool true)], args := [] }
  | _ => none }
def numFixedRow : OpenClaim := { program := "ytiocipmnmjpkfaa", sum := "f61dce0b377e563c899e3977b65c02b5e16c914052a146b00c75f95272847df3", func := "codicil/codicillaw02.NumFixed", spec := "numFixed", unfollowed := true, recurses := true, plainKeys := false, apart := false }
def NumFixedSaid : Prop := numFixedRow.holds Try.pinned (OpenSpec.ofChange numFixedSpec)

/-- ITS FALSE NEIGHBOUR: 'it returns false'. Refute it at one input. -/
def numFixedWrong : ChangeSpec := { name := "numFixed", fn := fun _ => fun
  | [] => { results := [.lit (.bool false)], args := [] }
  | _ => none }
def NumFixedWrongFalsely : Prop := numFixedRow.holds Try.pinned (OpenSpec.ofChange numFixedWrong)

/-- 'codicillaw08.DeltaApplies': WHATEVER THE INPUT: true; the input reads as it did. -/
def deltaAppliesSpec : ChangeSpec := { name := "deltaApplies", fn := fun _ => fun
  | [d1, d2, d3] => { results := [.lit (.bool true)], args := [d1, d2, d3] }
  | _ => none }
def deltaAppliesRow : OpenClaim := { program := "ytiocipmnmjpkfaa", sum := "f61dce0b377e563c899e3977b65c02b5e16c914052a146b00c75f95272847df3", func := "codicil/codicillaw08.DeltaApplies", spec := "deltaApplies", unfollowed := true, recurses := true, plainKeys := false, apart := false }
def DeltaAppliesSaid : Prop := deltaAppliesRow.holds Try.pinned (OpenSpec.ofChange deltaAppliesSpec)

/-- ITS FALSE NEIGHBOUR: 'it returns false'. Refute it at one input. -/
def deltaAppliesWrong : ChangeSpec := { name := "deltaApplies", fn := fun _ => fun
  | [d1, d2, d3] => { results := [.lit (.bool false)], args := [d1, d2, d3] }
  | _ => none }
def DeltaAppliesWrongFalsely : Prop := deltaAppliesRow.holds Try.pinned (OpenSpec.ofChange deltaAppliesWrong)

/-- 'codicillaw08.DeltaCopies': WHATEVER THE INPUT: true; the input reads as it did. -/
def deltaCopiesSpec : ChangeSpec := { name := "deltaCopies", fn := fun _ => fun
  | [d1, d2, d3] => { results := [.lit (.bool true)], args := [d1, d2, d3] }
  | _ => none }
def deltaCopiesRow : OpenClaim := { program := "ytiocipmnmjpkfaa", sum := "f61dce0b377e563c899e3977b65c02b5e16c914052a146b00c75f95272847df3", func := "codicil/codicillaw08.DeltaCopies", spec := "deltaCopies", unfollowed := true, recurses := true, plainKeys := false, apart := false }
def DeltaCopiesSaid : Prop := deltaCopiesRow.holds Try.pinned (OpenSpec.ofChange deltaCopiesSpec)

/-- ITS FALSE NEIGHBOUR: 'it returns false'. Refute it at one input. -/
def deltaCopiesWrong : ChangeSpec := { name := "deltaCopies", fn := fun _ => fun
  | [d1, d2, d3] => { results := [.lit (.bool false)], args := [d1, d2, d3] }
  | _ => none }
def DeltaCopiesWrongFalsely : Prop := deltaCopiesRow.holds Try.pinned (OpenSpec.ofChange deltaCopiesWrong)

/-- 'codicillaw08.DeltaMakes': WHATEVER THE INPUT: true; the input reads as it did. -/
def deltaMakesSpec : ChangeSpec := { name := "deltaMakes", fn := fun _ => fun
  | [d1, d2] => { results := [.lit (.bool true)], args := [d1, d2] }
  | _ => none }
def deltaMakesRow : OpenClaim := { program := "ytiocipmnmjpkfaa", sum := "f61dce0b377e563c899e3977b65c02b5e16c914052a146b00c75f95272847df3", func := "codicil/codicillaw08.DeltaMakes", spec := "deltaMakes", unfollowed := true, recurses := true, plainKeys := false, apart := false }
def DeltaMakesSaid : Prop := deltaMakesRow.holds Try.pinned (OpenSpec.ofChange deltaMakesSpec)

/-- ITS FALSE NEIGHBOUR: 'it returns false'. Refute it at one input. -/
def deltaMakesWrong : ChangeSpec := { name := "deltaMakes", fn := fun _ => fun
  | [d1, d2] => { results := [.lit (.bool false)], args := [d1, d2] }
  | _ => none }
def DeltaMakesWrongFalsely : Prop := deltaMakesRow.holds Try.pinned (OpenSpec.ofChange deltaMakesWrong)

/-- 'codicillaw08.DeltaChains': WHATEVER THE INPUT: true; the input reads as it did. -/
def deltaChainsSpec : ChangeSpec := { name := "deltaChains", fn := fun _ => fun
  | [d] => { results := [.lit (.bool true)], args := [d] }
  | _ => none }
def deltaChainsRow : OpenClaim := { program := "ytiocipmnmjpkfaa", sum := "f61dce0b377e563c899e3977b65c02b5e16c914052a146b00c75f95272847df3", func := "codicil/codicillaw08.DeltaChains", spec := "deltaChains", unfollowed := true, recurses := true, plainKeys := false, apart := false }
def DeltaChainsSaid : Prop := deltaChainsRow.holds Try.pinned (OpenSpec.ofChange deltaChainsSpec)

/-- ITS FALSE NEIGHBOUR: 'it returns false'. Refute it at one input. -/
def deltaChainsWrong : ChangeSpec := { name := "deltaChains", fn := fun _ => fun
  | [d] => { results := [.lit (.bool false)], args := [d] }
  | _ => none }
def DeltaChainsWrongFalsely : Prop := deltaChainsRow.holds Try.pinned (OpenSpec.ofChange deltaChainsWrong)

/-- 'codicillaw08.DeltaFixed': WHATEVER THE INPUT: true; the input reads as it did. -/
def deltaFixedSpec : ChangeSpec := { name := "deltaFixed", fn := fun _ => fun
  | [] => { results := [.lit (.bool true)], args := [] }
  | _ => none }
def deltaFixedRow : OpenClaim := { program := "ytiocipmnmjpkfaa", sum := "f61dce0b377e563c899e3977b65c02b5e16c914052a146b00c75f95272847df3", func := "codicil/codicillaw08.DeltaFixed", spec := "deltaFixed", unfollowed := true, recurses := true, plainKeys := false, apart := false }
def DeltaFixedSaid : Prop := deltaFixedRow.holds Try.pinned (OpenSpec.ofChange deltaFixedSpec)

/-- ITS FALSE NEIGHBOUR: 'it returns false'. Refute it at one input. -/
def deltaFixedWrong : ChangeSpec := { name := "deltaFixed", fn := fun _ => fun
  | [] => { results := [.lit (.bool false)], args := [] }
  | _ => none }
def DeltaFixedWrongFalsely : Prop := deltaFixedRow.holds Try.pinned (OpenSpec.ofChange deltaFixedWrong)

/-- 'codicillaw08.DeltaMemory': WHATEVER THE INPUT: true; the input reads as it did. -/
def deltaMemorySpec : ChangeSpec := { name := "deltaMemory", fn := fun _ => fun
  | [d1, d2] => { results := [.lit (.bool true)], args := [d1, d2] }
  | _ => none }
def deltaMemoryRow : OpenClaim := { program := "ytiocipmnmjpkfaa", sum := "f61dce0b377e563c899e3977b65c02b5e16c914052a146b00c75f95272847df3", func := "codicil/codicillaw08.DeltaMemory", spec := "deltaMemory", unfollowed := true, recurses := true, plainKeys := false, apart := false }
def DeltaMemorySaid : Prop := deltaMemoryRow.holds Try.pinned (OpenSpec.ofChange deltaMemorySpec)

/-- ITS FALSE NEIGHBOUR: 'it returns false'. Refute it at one input. -/
def deltaMemoryWrong : ChangeSpec := { name := "deltaMemory", fn := fun _ => fun
  | [d1, d2] => { results := [.lit (.bool false)], args := [d1, d2] }
  | _ => none }
def DeltaMemoryWrongFalsely : Prop := deltaMemoryRow.holds Try.pinned (OpenSpec.ofChange deltaMemoryWrong)

/- THE SECOND FORM. 'bulk': how many values and letters a reading holds, each counted each time it is reached (what is shared counts as often as it is met; a slice's spare places count too). A statement '..UptoSaid' is the law's where the arguments, and the package variables that the reading takes, are together of bulk at most 1048576: NARROWER than '..Said'. Prove '..Said' where nothing that the law and all that it calls make is longer than what came in: it says more and counts as full. Else prove '..UptoSaid'. A law counts once. -/
mutual
def uptoBulk {H : Type} : DataW H → Nat
  | .lit (.string bytes) => bytes.length + 1
  | .lit _ => 1
  | .nil => 1
  | .ptr d => uptoBulk d + 1
  | .slice elems spare => uptoBulkAll elems + uptoBulkAll spare + 1
  | .agg parts => uptoBulkAll parts + 1
  | .iface _ d => uptoBulk d + 1
  | .map entries => uptoBulkEntries entries + 1
  | .held _ => 1
def uptoBulkAll {H : Type} : List (DataW H) → Nat
  | [] => 0
  | d :: r => uptoBulk d + uptoBulkAll r
def uptoBulkEntries {H : Type} : List (Lit × DataW H) → Nat
  | [] => 0
  | x :: r => uptoBulkEntry x + uptoBulkEntries r
def uptoBulkEntry {H : Type} : Lit × DataW H → Nat
  | (.string bytes, d) => bytes.length + uptoBulk d + 1
  | (_, d) => uptoBulk d + 1
 end
def uptoSmall : (H : Type) → List (DataW H) → Bool := fun _ ds => decide (uptoBulkAll ds ≤ 1048576)
def OpenSpec.upto (s : _root_.Go.ChangeSpec) : _root_.Go.OpenSpec := { _root_.Go.OpenSpec.ofChange s with cond := some uptoSmall }

/-- 'codicillaw02.NumPuts', WHERE WHAT IT READS IS OF BULK AT MOST 1048576: true; the input reads as it did. -/
def numPutsUptoRow : OpenClaim := { program := "ytiocipmnmjpkfaa", sum := "f61dce0b377e563c899e3977b65c02b5e16c914052a146b00c75f95272847df3", func := "codicil/codicillaw02.NumPuts", spec := "numPuts", plainKeys := false, apart := false, narrowed := true }
def NumPutsUptoSaid : Prop := numPutsUptoRow.holds Try.pinned (OpenSpec.upto numPutsSpec)

/-- 'codicillaw02.NumMemory', WHERE WHAT IT READS IS OF BULK AT MOST 1048576: true; the input reads as it did. -/
def numMemoryUptoRow : OpenClaim := { program := "ytiocipmnmjpkfaa", sum := "f61dce0b377e563c899e3977b65c02b5e16c914052a146b00c75f95272847df3", func := "codicil/codicillaw02.NumMemory", spec := "numMemory", plainKeys := false, apart := false, narrowed := true }
def NumMemoryUptoSaid : Prop := numMemoryUptoRow.holds Try.pinned (OpenSpec.upto numMemorySpec)

/-- 'codicillaw02.NumOnce', WHERE WHAT IT READS IS OF BULK AT MOST 1048576: true; the input reads as it did. -/
def numOnceUptoRow : OpenClaim := { program := "ytiocipmnmjpkfaa", sum := "f61dce0b377e563c899e3977b65c02b5e16c914052a146b00c75f95272847df3", func := "codicil/codicillaw02.NumOnce", spec := "numOnce", unfollowed := true, recurses := true, plainKeys := false, apart := false, narrowed := true }
def NumOnceUptoSaid : Prop := numOnceUptoRow.holds Try.pinned (OpenSpec.upto numOnceSpec)

/-- 'codicillaw02.NumThere', WHERE WHAT IT READS IS OF BULK AT MOST 1048576: true; the input reads as it did. -/
def numThereUptoRow : OpenClaim := { program := "ytiocipmnmjpkfaa", sum := "f61dce0b377e563c899e3977b65c02b5e16c914052a146b00c75f95272847df3", func := "codicil/codicillaw02.NumThere", spec := "numThere", unfollowed := true, recurses := true, plainKeys := false, apart := false, narrowed := true }
def NumThereUptoSaid : Prop := numThereUptoRow.holds Try.pinned (OpenSpec.upto numThereSpec)

/-- 'codicillaw02.NumTakes', WHERE WHAT IT READS IS OF BULK AT MOST 1048576: true; the input reads as it did. -/
def numTakesUptoRow : OpenClaim := { program := "ytiocipmnmjpkfaa", sum := "f61dce0b377e563c899e3977b65c02b5e16c914052a146b00c75f95272847df3", func := "codicil/codicillaw02.NumTakes", spec := "numTakes", unfollowed := true, recurses := true, plainKeys := false, apart := false, narrowed := true }
def NumTakesUptoSaid : Prop := numTakesUptoRow.holds Try.pinned (OpenSpec.upto numTakesSpec)

/-- 'codicillaw02.NumFixed', WHERE WHAT IT READS IS OF BULK AT MOST 1048576: true; the input reads as it did. -/
def numFixedUptoRow : OpenClaim := { program := "ytiocipmnmjpkfaa", sum := "f61dce0b377e563c899e3977b65c02b5e16c914052a146b00c75f95272847df3", func := "codicil/codicillaw02.NumFixed", spec := "numFixed", unfollowed := true, recurses := true, plainKeys := false, apart := false, narrowed := true }
def NumFixedUptoSaid : Prop := numFixedUptoRow.holds Try.pinned (OpenSpec.upto numFixedSpec)

/-- 'codicillaw08.DeltaApplies', WHERE WHAT IT READS IS OF BULK AT MOST 1048576: true; the input reads as it did. -/
def deltaAppliesUptoRow : OpenClaim := { program := "ytiocipmnmjpkfaa", sum := "f61dce0b377e563c899e3977b65c02b5e16c914052a146b00c75f95272847df3", func := "codicil/codicillaw08.DeltaApplies", spec := "deltaApplies", unfollowed := true, recurses := true, plainKeys := false, apart := false, narrowed := true }
def DeltaAppliesUptoSaid : Prop := deltaAppliesUptoRow.holds Try.pinned (OpenSpec.upto deltaAppliesSpec)

/-- 'codicillaw08.DeltaCopies', WHERE WHAT IT READS IS OF BULK AT MOST 1048576: true; the input reads as it did. -/
def deltaCopiesUptoRow : OpenClaim := { program := "ytiocipmnmjpkfaa", sum := "f61dce0b377e563c899e3977b65c02b5e16c914052a146b00c75f95272847df3", func := "codicil/codicillaw08.DeltaCopies", spec := "deltaCopies", unfollowed := true, recurses := true, plainKeys := false, apart := false, narrowed := true }
def DeltaCopiesUptoSaid : Prop := deltaCopiesUptoRow.holds Try.pinned (OpenSpec.upto deltaCopiesSpec)

/-- 'codicillaw08.DeltaMakes', WHERE WHAT IT READS IS OF BULK AT MOST 1048576: true; the input reads as it did. -/
def deltaMakesUptoRow : OpenClaim := { program := "ytiocipmnmjpkfaa", sum := "f61dce0b377e563c899e3977b65c02b5e16c914052a146b00c75f95272847df3", func := "codicil/codicillaw08.DeltaMakes", spec := "deltaMakes", unfollowed := true, recurses := true, plainKeys := false, apart := false, narrowed := true }
def DeltaMakesUptoSaid : Prop := deltaMakesUptoRow.holds Try.pinned (OpenSpec.upto deltaMakesSpec)

/-- 'codicillaw08.DeltaChains', WHERE WHAT IT READS IS OF BULK AT MOST 1048576: true; the input reads as it did. -/
def deltaChainsUptoRow : OpenClaim := { program := "ytiocipmnmjpkfaa", sum := "f61dce0b377e563c899e3977b65c02b5e16c914052a146b00c75f95272847df3", func := "codicil/codicillaw08.DeltaChains", spec := "deltaChains", unfollowed := true, recurses := true, plainKeys := false, apart := false, narrowed := true }
def DeltaChainsUptoSaid : Prop := deltaChainsUptoRow.holds Try.pinned (OpenSpec.upto deltaChainsSpec)

/-- 'codicillaw08.DeltaFixed', WHERE WHAT IT READS IS OF BULK AT MOST 1048576: true; the input reads as it did. -/
def deltaFixedUptoRow : OpenClaim := { program := "ytiocipmnmjpkfaa", sum := "f61dce0b377e563c899e3977b65c02b5e16c914052a146b00c75f95272847df3", func := "codicil/codicillaw08.DeltaFixed", spec := "deltaFixed", unfollowed := true, recurses := true, plainKeys := false, apart := false, narrowed := true }
def DeltaFixedUptoSaid : Prop := deltaFixedUptoRow.holds Try.pinned (OpenSpec.upto deltaFixedSpec)

/-- 'codicillaw08.DeltaMemory', WHERE WHAT IT READS IS OF BULK AT MOST 1048576: true; the input reads as it did. -/
def deltaMemoryUptoRow : OpenClaim := { program := "ytiocipmnmjpkfaa", sum := "f61dce0b377e563c899e3977b65c02b5e16c914052a146b00c75f95272847df3", func := "codicil/codicillaw08.DeltaMemory", spec := "deltaMemory", unfollowed := true, recurses := true, plainKeys := false, apart := false, narrowed := true }
def DeltaMemoryUptoSaid : Prop := deltaMemoryUptoRow.holds Try.pinned (OpenSpec.upto deltaMemorySpec)

end Rows
end Go.Proofs.Ytiocipmnmjpkfaa
