/-
  No cell of these rows narrows 'for every input' (looked for: loops, veiled, ifaces, maps, wideKeys, modest, calm, conditions, laid).
  DERIVED. THE GIVEN ROWS OF THIS SEAT. 5 by the template 'for every input the law returns true; each argument reads behind the call as it read before'; 0 by the template 'total and deterministic' (their statements: YtkdklcamgcmifaaTotals.lean).
  GIVEN WITH THE SEED: the statements are not yours to turn. If you find one false, say at which input.
  Laid BY PROGRAM, IN A SANDBOX (cutbox-rows.mjs): the forced cells as the released guide's own fill.sh prints them over the translation b5add983f755375d… (all of the seat's roots in one cut). By AI agents, Wed Nov 11 2026. No macro, syntax, notation, axiom, sorry.
-/
import Derived.Test.YtkdklcamgcmifaaChecked
import GoSem.Claim
import GoSem.ClaimJoined
import GoSem.ClaimMapViews
import Derived.JoinedTies
import Derived.KernelRfl
namespace Go.Proofs.Ytkdklcamgcmifaa
/- THE CELL 'sum', in the pinned program and in every row, IS THE sha256 OF THE DUMP (.gsa) THAT YtkdklcamgcmifaaProg.lean LOADS. Nothing in Lean hashes anything: it is a label: what it is worth is what the hold of that sum in a sandbox is worth. -/
noncomputable def Try.pinned : Pinned := { name := "ytkdklcamgcmifaa", sum := "b5add983f755375d07dac8d72d015413e2d5cf1e4fec0ffedfa666aa7675d8a9", checked := Try.checked }
namespace Rows
def none {H : Type} : Left H := { results := [], args := [] }

/-- 'codicillaw05.ZlibSums': WHATEVER THE INPUT: true; the input reads as it did. -/
def zlibSumsSpec : ChangeSpec := { name := "zlibSums", fn := fun _ => fun
  | [d] => { results := [.lit (.bool true)], args := [d] }
  | _ => none }
def zlibSumsRow : OpenClaim := { program := "ytkdklcamgcmifaa", sum := "b5add983f755375d07dac8d72d015413e2d5cf1e4fec0ffedfa666aa7675d8a9", func := "codicil/codicillaw05.ZlibSums", spec := "zlibSums", apart := false }
def ZlibSumsSaid : Prop := zlibSumsRow.holds Try.pinned (OpenSpec.ofChange zlibSumsSpec)

/-- ITS FALSE NEIGHBOUR: 'it returns false'. Refute it at one input. -/
def zlibSumsWrong : ChangeSpec := { name := "zlibSums", fn := fun _ => fun
  | [d] => { results := [.lit (.bool false)], args := [d] }
  | _ => none }
def ZlibSumsWrongFalsely : Prop := zlibSumsRow.holds Try.pinned (OpenSpec.ofChange zlibSumsWrong)

/-- 'codicillaw04.DeflateWrites': WHATEVER THE INPUT: true; the input reads as it did. -/
def deflateWritesSpec : ChangeSpec := { name := "deflateWrites", fn := fun _ => fun
  | [d1, d2] => { results := [.lit (.bool true)], args := [d1, d2] }
  | _ => none }
def deflateWritesRow : OpenClaim := { program := "ytkdklcamgcmifaa", sum := "b5add983f755375d07dac8d72d015413e2d5cf1e4fec0ffedfa666aa7675d8a9", func := "codicil/codicillaw04.DeflateWrites", spec := "deflateWrites", apart := false }
def DeflateWritesSaid : Prop := deflateWritesRow.holds Try.pinned (OpenSpec.ofChange deflateWritesSpec)

/-- ITS FALSE NEIGHBOUR: 'it returns false'. Refute it at one input. -/
def deflateWritesWrong : ChangeSpec := { name := "deflateWrites", fn := fun _ => fun
  | [d1, d2] => { results := [.lit (.bool false)], args := [d1, d2] }
  | _ => none }
def DeflateWritesWrongFalsely : Prop := deflateWritesRow.holds Try.pinned (OpenSpec.ofChange deflateWritesWrong)

/-- 'codicillaw04.DeflateSizes': WHATEVER THE INPUT: true; the input reads as it did. -/
def deflateSizesSpec : ChangeSpec := { name := "deflateSizes", fn := fun _ => fun
  | [d] => { results := [.lit (.bool true)], args := [d] }
  | _ => none }
def deflateSizesRow : OpenClaim := { program := "ytkdklcamgcmifaa", sum := "b5add983f755375d07dac8d72d015413e2d5cf1e4fec0ffedfa666aa7675d8a9", func := "codicil/codicillaw04.DeflateSizes", spec := "deflateSizes", apart := false }
def DeflateSizesSaid : Prop := deflateSizesRow.holds Try.pinned (OpenSpec.ofChange deflateSizesSpec)

/-- ITS FALSE NEIGHBOUR: 'it returns false'. Refute it at one input. -/
def deflateSizesWrong : ChangeSpec := { name := "deflateSizes", fn := fun _ => fun
  | [d] => { results := [.lit (.bool false)], args := [d] }
  | _ => none }
def DeflateSizesWrongFalsely : Prop := deflateSizesRow.holds Try.pinned (OpenSpec.ofChange deflateSizesWrong)

/-- 'codicillaw04.DeflateMemory': WHATEVER THE INPUT: true; the input reads as it did. -/
def deflateMemorySpec : ChangeSpec := { name := "deflateMemory", fn := fun _ => fun
  | [d] => { results := [.lit (.bool true)], args := [d] }
  | _ => none }
def deflateMemoryRow : OpenClaim := { program := "ytkdklcamgcmifaa", sum := "b5add983f755375d07dac8d72d015413e2d5cf1e4fec0ffedfa666aa7675d8a9", func := "codicil/codicillaw04.DeflateMemory", spec := "deflateMemory", apart := false }
def DeflateMemorySaid : Prop := deflateMemoryRow.holds Try.pinned (OpenSpec.ofChange deflateMemorySpec)

/-- ITS FALSE NEIGHBOUR: 'it returns false'. Refute it at one input. -/
def deflateMemoryWrong : ChangeSpec := { name := "deflateMemory", fn := fun _ => fun
  | [d] => { results := [.lit (.bool false)], args := [d] }
  | _ => none }
def DeflateMemoryWrongFalsely : Prop := deflateMemoryRow.holds Try.pinned (OpenSpec.ofChange deflateMemoryWrong)

/-- 'codicillaw05.ZlibWraps': WHATEVER THE INPUT: true; the input reads as it did. -/
def zlibWrapsSpec : ChangeSpec := { name := "zlibWraps", fn := fun _ => fun
  | [d1, d2] => { results := [.lit (.bool true)], args := [d1, d2] }
  | _ => none }
def zlibWrapsRow : OpenClaim := { program := "ytkdklcamgcmifaa", sum := "b5add983f755375d07dac8d72d015413e2d5cf1e4fec0ffedfa666aa7675d8a9", func := "codicil/codicillaw05.ZlibWraps", spec := "zlibWraps", apart := false }
def ZlibWrapsSaid : Prop := zlibWrapsRow.holds Try.pinned (OpenSpec.ofChange zlibWrapsSpec)

/-- ITS FALSE NEIGHBOUR: 'it returns false'. Refute it at one input. -/
def zlibWrapsWrong : ChangeSpec := { name := "zlibWraps", fn := fun _ => fun
  | [d1, d2] => { results := [.lit (.bool false)], args := [d1, d2] }
  | _ => none }
def ZlibWrapsWrongFalsely : Prop := zlibWrapsRow.holds Try.pinned (OpenSpec.ofChange zlibWrapsWrong)

/- THE SECOND FORM. 'bulk': how many values and letters a reading holds, each counted each time it is reached (what is shared counts as often as it is met; a slice's spare places count too). A statement '..UptoSaid' is the law's where the arguments, and the package variables that the reading takes, are together of bulk at most 1048576: NARROWER than '..Said'. Prove '..Said' where nothing that the law and all that it calls make is longer than what came in: it says more and counts as full. Else prove '..UptoSaid'. A law counts once. -/
mutual
def uptoBulk {H : Type} : DataW H → Nat
  | .lit (.string bytes) => bytes.length + 1
  | .lit _ => 1
  | .nil => 1
  | .ptr d => uptoBulk d + 1
  | .slice elems spare => uptoBulkAll elems + uptoBulkAll spare + 1
  | .agg parts => uptoBulkAll parts + 1
  | .iface _ d => uptoBulk d + 1
  | .map entries => uptoBulkEntries entries + 1
  | .held _ => 1
def uptoBulkAll {H : Type} : List (DataW H) → Nat
  | [] => 0
  | d :: r => uptoBulk d + uptoBulkAll r
def uptoBulkEntries {H : Type} : List (Lit × DataW H) → Nat
  | [] => 0
  | x :: r => uptoBulkEntry x + uptoBulkEntries r
def uptoBulkEntry {H : Type} : Lit × DataW H → Nat
  | (.string bytes, d) => bytes.length + uptoBulk d + 1
  | (_, d) => uptoBulk d + 1
 end
def uptoSmall : (H : Type) → List (DataW H) → Bool := fun _ ds => decide (uptoBulkAll ds ≤ 1048576)
def OpenSpec.upto (s : _root_.Go.ChangeSpec) : _root_.Go.OpenSpec := { _root_.Go.OpenSpec.ofChange s with cond := some uptoSmall }

/-- 'codicillaw05.ZlibSums', WHERE WHAT IT READS IS OF BULK AT MOST 1048576: true; the input reads as it did. -/
def zlibSumsUptoRow : OpenClaim := { program := "ytkdklcamgcmifaa", sum := "b5add983f755375d07dac8d72d015413e2d5cf1e4fec0ffedfa666aa7675d8a9", func := "codicil/codicillaw05.ZlibSums", spec := "zlibSums", apart := false, narrowed := true }
def ZlibSumsUptoSaid : Prop := zlibSumsUptoRow.holds Try.pinned (OpenSpec.upto zlibSumsSpec)

/-- 'codicillaw04.DeflateWrites', WHERE WHAT IT READS IS OF BULK AT MOST 1048576: true; the input reads as it did. -/
def deflateWritesUptoRow : OpenClaim := { program := "ytkdklcamgcmifaa", sum := "b5add983f755375d07dac8d72d015413e2d5cf1e4fec0ffedfa666aa7675d8a9", func := "codicil/codicillaw04.DeflateWrites", spec := "deflateWrites", apart := false, narrowed := true }
def DeflateWritesUptoSaid : Prop := deflateWritesUptoRow.holds Try.pinned (OpenSpec.upto deflateWritesSpec)

/-- 'codicillaw04.DeflateSizes', WHERE WHAT IT READS IS OF BULK AT MOST 1048576: true; the input reads as it did. -/
def deflateSizesUptoRow : OpenClaim := { program := "ytkdklcamgcmifaa", sum := "b5add983f755375d07dac8d72d015413e2d5cf1e4fec0ffedfa666aa7675d8a9", func := "codicil/codicillaw04.DeflateSizes", spec := "deflateSizes", apart := false, narrowed := true }
def DeflateSizesUptoSaid : Prop := deflateSizesUptoRow.holds Try.pinned (OpenSpec.upto deflateSizesSpec)

/-- 'codicillaw04.DeflateMemory', WHERE WHAT IT READS IS OF BULK AT MOST 1048576: true; the input reads as it did. -/
def deflateMemoryUptoRow : OpenClaim := { program := "ytkdklcamgcmifaa", sum := "b5add983f755375d07dac8d72d015413e2d5cf1e4fec0ffedfa666aa7675d8a9", func := "codicil/codicillaw04.DeflateMemory", spec := "deflateMemory", apart := false, narrowed := true }
def DeflateMemoryUptoSaid : Prop := deflateMemoryUptoRow.holds Try.pinned (OpenSpec.upto deflateMemorySpec)

/-- 'codicillaw05.ZlibWraps', WHERE WHAT IT READS IS OF BULK AT MOST 1048576: true; the input reads as it did. -/
def zlibWrapsUptoRow : OpenClaim := { program := "ytkdklcamgcmifaa", sum := "b5add983f755375d07dac8d72d015413e2d5cf1e4fec0ffedfa666aa7675d8a9", func := "codicil/codicillaw05.ZlibWraps", spec := "zlibWraps", apart := false, narrowed := true }
def ZlibWrapsUptoSaid : Prop := zlibWrapsUptoRow.holds Try.pinned (OpenSpec.upto zlibWrapsSpec)

end Rows
end Go.Proofs.Ytkdklcamgcmifaa
