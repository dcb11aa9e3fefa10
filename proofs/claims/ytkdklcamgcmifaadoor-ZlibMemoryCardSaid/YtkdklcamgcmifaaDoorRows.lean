/-
  NARROWER THAN 'FOR EVERY INPUT', by the rows' own cells (each row's printed sentence says how): InflateEnds: laid · InflateStored: laid · InflateFixed: laid · InflateMemory: laid · DeflateBack: laid · DeflateFixed: laid · ZlibBack: laid · ZlibFixed: laid · ZlibMemory: laid.
  DERIVED. THE GIVEN ROWS OF THIS SEAT. 9 by the template 'for every input the law returns true; each argument reads behind the call as it read before'; 0 by the template 'total and deterministic' (their statements: YtkdklcamgcmifaaDoorTotals.lean).
  GIVEN WITH THE SEED: the statements are not yours to turn. If you find one false, say at which input.
  Laid BY PROGRAM, IN A SANDBOX (cutbox-rows.mjs): the forced cells as the released guide's own fill.sh prints them over the translation cdb3a1886bccbedf… (all of the seat's roots in one cut). By AI agents, Wed Nov 11 2026. No macro, syntax, notation, axiom, sorry.
-/
import Derived.Test.YtkdklcamgcmifaaDoorChecked
import GoSem.Claim
import GoSem.ClaimJoined
import GoSem.ClaimMapViews
import Derived.JoinedTies
import Derived.KernelRfl
namespace Go.Proofs.YtkdklcamgcmifaaDoor
/- THE CELL 'sum', in the pinned program and in every row, IS THE sha256 OF THE DUMP (.gsa) THAT YtkdklcamgcmifaaDoorProg.lean LOADS. Nothing in Lean hashes anything: it is a label: what it is worth is what the hold of that sum in a sandbox is worth. -/
noncomputable def Tryd.pinned : Pinned := { name := "ytkdklcamgcmifaadoor", sum := "cdb3a1886bccbedf0a82f8978301621bbbed04165ebfbdfc683a0c25d4cbe05a", checked := Tryd.checked }
namespace Rows
def none {H : Type} : Left H := { results := [], args := [] }

/- WHAT THE LISTED PACKAGE-LEVEL VARIABLES READ AS WHEN THE CALL BEGINS. Each datum BY PROGRAM (the guide's laid-datum.mjs) off the statement by which the dump's own 'gosem.cut.vars' lays the variable. In a bare row this is a premise. The card (YtkdklcamgcmifaaDoorCards.lean) ties it to the program's text. -/
def laid_codicil_inflate_order {H : Type} : DataW H := .agg [.lit (.int .i64 16), .lit (.int .i64 17), .lit (.int .i64 18), .lit (.int .i64 0), .lit (.int .i64 8), .lit (.int .i64 7), .lit (.int .i64 9), .lit (.int .i64 6), .lit (.int .i64 10), .lit (.int .i64 5), .lit (.int .i64 11), .lit (.int .i64 4), .lit (.int .i64 12), .lit (.int .i64 3), .lit (.int .i64 13), .lit (.int .i64 2), .lit (.int .i64 14), .lit (.int .i64 1), .lit (.int .i64 15)]

/-- 'codicillaw03.InflateEnds': WHATEVER THE INPUT: true; the input reads as it did. -/
def inflateEndsSpec : ChangeSpec := { name := "inflateEnds", fn := fun _ => fun
  | [d1, d2, d3] => { results := [.lit (.bool true)], args := [d1, d2, d3] }
  | _ => none }
def inflateEndsRow : OpenClaim := { program := "ytkdklcamgcmifaadoor", sum := "cdb3a1886bccbedf0a82f8978301621bbbed04165ebfbdfc683a0c25d4cbe05a", func := "codicil/codicillaw03.InflateEnds", spec := "inflateEnds", named := ["codicil/inflate.order"], apart := false, laid := [("codicil/inflate.order", laid_codicil_inflate_order)] }
def InflateEndsSaid : Prop := inflateEndsRow.holds Tryd.pinned (OpenSpec.ofChange inflateEndsSpec)

/-- ITS FALSE NEIGHBOUR: 'it returns false'. Refute it at one input. -/
def inflateEndsWrong : ChangeSpec := { name := "inflateEnds", fn := fun _ => fun
  | [d1, d2, d3] => { results := [.lit (.bool false)], args := [d1, d2, d3] }
  | _ => none }
def InflateEndsWrongFalsely : Prop := inflateEndsRow.holds Tryd.pinned (OpenSpec.ofChange inflateEndsWrong)

/-- 'codicillaw03.InflateStored': WHATEVER THE INPUT: true; the input reads as it did. -/
def inflateStoredSpec : ChangeSpec := { name := "inflateStored", fn := fun _ => fun
  | [d] => { results := [.lit (.bool true)], args := [d] }
  | _ => none }
def inflateStoredRow : OpenClaim := { program := "ytkdklcamgcmifaadoor", sum := "cdb3a1886bccbedf0a82f8978301621bbbed04165ebfbdfc683a0c25d4cbe05a", func := "codicil/codicillaw03.InflateStored", spec := "inflateStored", named := ["codicil/inflate.order"], apart := false, laid := [("codicil/inflate.order", laid_codicil_inflate_order)] }
def InflateStoredSaid : Prop := inflateStoredRow.holds Tryd.pinned (OpenSpec.ofChange inflateStoredSpec)

/-- ITS FALSE NEIGHBOUR: 'it returns false'. Refute it at one input. -/
def inflateStoredWrong : ChangeSpec := { name := "inflateStored", fn := fun _ => fun
  | [d] => { results := [.lit (.bool false)], args := [d] }
  | _ => none }
def InflateStoredWrongFalsely : Prop := inflateStoredRow.holds Tryd.pinned (OpenSpec.ofChange inflateStoredWrong)

/-- 'codicillaw03.InflateFixed': WHATEVER THE INPUT: true; the input reads as it did. -/
def inflateFixedSpec : ChangeSpec := { name := "inflateFixed", fn := fun _ => fun
  | [] => { results := [.lit (.bool true)], args := [] }
  | _ => none }
def inflateFixedRow : OpenClaim := { program := "ytkdklcamgcmifaadoor", sum := "cdb3a1886bccbedf0a82f8978301621bbbed04165ebfbdfc683a0c25d4cbe05a", func := "codicil/codicillaw03.InflateFixed", spec := "inflateFixed", named := ["codicil/inflate.order"], apart := false, laid := [("codicil/inflate.order", laid_codicil_inflate_order)] }
def InflateFixedSaid : Prop := inflateFixedRow.holds Tryd.pinned (OpenSpec.ofChange inflateFixedSpec)

/-- ITS FALSE NEIGHBOUR: 'it returns false'. Refute it at one input. -/
def inflateFixedWrong : ChangeSpec := { name := "inflateFixed", fn := fun _ => fun
  | [] => { results := [.lit (.bool false)], args := [] }
  | _ => none }
def InflateFixedWrongFalsely : Prop := inflateFixedRow.holds Tryd.pinned (OpenSpec.ofChange inflateFixedWrong)

/-- 'codicillaw03.InflateMemory': WHATEVER THE INPUT: true; the input reads as it did. -/
def inflateMemorySpec : ChangeSpec := { name := "inflateMemory", fn := fun _ => fun
  | [d] => { results := [.lit (.bool true)], args := [d] }
  | _ => none }
def inflateMemoryRow : OpenClaim := { program := "ytkdklcamgcmifaadoor", sum := "cdb3a1886bccbedf0a82f8978301621bbbed04165ebfbdfc683a0c25d4cbe05a", func := "codicil/codicillaw03.InflateMemory", spec := "inflateMemory", named := ["codicil/inflate.order"], apart := false, laid := [("codicil/inflate.order", laid_codicil_inflate_order)] }
def InflateMemorySaid : Prop := inflateMemoryRow.holds Tryd.pinned (OpenSpec.ofChange inflateMemorySpec)

/-- ITS FALSE NEIGHBOUR: 'it returns false'. Refute it at one input. -/
def inflateMemoryWrong : ChangeSpec := { name := "inflateMemory", fn := fun _ => fun
  | [d] => { results := [.lit (.bool false)], args := [d] }
  | _ => none }
def InflateMemoryWrongFalsely : Prop := inflateMemoryRow.holds Tryd.pinned (OpenSpec.ofChange inflateMemoryWrong)

/-- 'codicillaw04.DeflateBack': WHATEVER THE INPUT: true; the input reads as it did. -/
def deflateBackSpec : ChangeSpec := { name := "deflateBack", fn := fun _ => fun
  | [d1, d2, d3] => { results := [.lit (.bool true)], args := [d1, d2, d3] }
  | _ => none }
def deflateBackRow : OpenClaim := { program := "ytkdklcamgcmifaadoor", sum := "cdb3a1886bccbedf0a82f8978301621bbbed04165ebfbdfc683a0c25d4cbe05a", func := "codicil/codicillaw04.DeflateBack", spec := "deflateBack", named := ["codicil/inflate.order"], apart := false, laid := [("codicil/inflate.order", laid_codicil_inflate_order)] }
def DeflateBackSaid : Prop := deflateBackRow.holds Tryd.pinned (OpenSpec.ofChange deflateBackSpec)

/-- ITS FALSE NEIGHBOUR: 'it returns false'. Refute it at one input. -/
def deflateBackWrong : ChangeSpec := { name := "deflateBack", fn := fun _ => fun
  | [d1, d2, d3] => { results := [.lit (.bool false)], args := [d1, d2, d3] }
  | _ => none }
def DeflateBackWrongFalsely : Prop := deflateBackRow.holds Tryd.pinned (OpenSpec.ofChange deflateBackWrong)

/-- 'codicillaw04.DeflateFixed': WHATEVER THE INPUT: true; the input reads as it did. -/
def deflateFixedSpec : ChangeSpec := { name := "deflateFixed", fn := fun _ => fun
  | [] => { results := [.lit (.bool true)], args := [] }
  | _ => none }
def deflateFixedRow : OpenClaim := { program := "ytkdklcamgcmifaadoor", sum := "cdb3a1886bccbedf0a82f8978301621bbbed04165ebfbdfc683a0c25d4cbe05a", func := "codicil/codicillaw04.DeflateFixed", spec := "deflateFixed", named := ["codicil/inflate.order"], apart := false, laid := [("codicil/inflate.order", laid_codicil_inflate_order)] }
def DeflateFixedSaid : Prop := deflateFixedRow.holds Tryd.pinned (OpenSpec.ofChange deflateFixedSpec)

/-- ITS FALSE NEIGHBOUR: 'it returns false'. Refute it at one input. -/
def deflateFixedWrong : ChangeSpec := { name := "deflateFixed", fn := fun _ => fun
  | [] => { results := [.lit (.bool false)], args := [] }
  | _ => none }
def DeflateFixedWrongFalsely : Prop := deflateFixedRow.holds Tryd.pinned (OpenSpec.ofChange deflateFixedWrong)

/-- 'codicillaw05.ZlibBack': WHATEVER THE INPUT: true; the input reads as it did. -/
def zlibBackSpec : ChangeSpec := { name := "zlibBack", fn := fun _ => fun
  | [d1, d2, d3, d4, d5] => { results := [.lit (.bool true)], args := [d1, d2, d3, d4, d5] }
  | _ => none }
def zlibBackRow : OpenClaim := { program := "ytkdklcamgcmifaadoor", sum := "cdb3a1886bccbedf0a82f8978301621bbbed04165ebfbdfc683a0c25d4cbe05a", func := "codicil/codicillaw05.ZlibBack", spec := "zlibBack", named := ["codicil/inflate.order"], apart := false, laid := [("codicil/inflate.order", laid_codicil_inflate_order)] }
def ZlibBackSaid : Prop := zlibBackRow.holds Tryd.pinned (OpenSpec.ofChange zlibBackSpec)

/-- ITS FALSE NEIGHBOUR: 'it returns false'. Refute it at one input. -/
def zlibBackWrong : ChangeSpec := { name := "zlibBack", fn := fun _ => fun
  | [d1, d2, d3, d4, d5] => { results := [.lit (.bool false)], args := [d1, d2, d3, d4, d5] }
  | _ => none }
def ZlibBackWrongFalsely : Prop := zlibBackRow.holds Tryd.pinned (OpenSpec.ofChange zlibBackWrong)

/-- 'codicillaw05.ZlibFixed': WHATEVER THE INPUT: true; the input reads as it did. -/
def zlibFixedSpec : ChangeSpec := { name := "zlibFixed", fn := fun _ => fun
  | [] => { results := [.lit (.bool true)], args := [] }
  | _ => none }
def zlibFixedRow : OpenClaim := { program := "ytkdklcamgcmifaadoor", sum := "cdb3a1886bccbedf0a82f8978301621bbbed04165ebfbdfc683a0c25d4cbe05a", func := "codicil/codicillaw05.ZlibFixed", spec := "zlibFixed", named := ["codicil/inflate.order"], apart := false, laid := [("codicil/inflate.order", laid_codicil_inflate_order)] }
def ZlibFixedSaid : Prop := zlibFixedRow.holds Tryd.pinned (OpenSpec.ofChange zlibFixedSpec)

/-- ITS FALSE NEIGHBOUR: 'it returns false'. Refute it at one input. -/
def zlibFixedWrong : ChangeSpec := { name := "zlibFixed", fn := fun _ => fun
  | [] => { results := [.lit (.bool false)], args := [] }
  | _ => none }
def ZlibFixedWrongFalsely : Prop := zlibFixedRow.holds Tryd.pinned (OpenSpec.ofChange zlibFixedWrong)

/-- 'codicillaw05.ZlibMemory': WHATEVER THE INPUT: true; the input reads as it did. -/
def zlibMemorySpec : ChangeSpec := { name := "zlibMemory", fn := fun _ => fun
  | [d] => { results := [.lit (.bool true)], args := [d] }
  | _ => none }
def zlibMemoryRow : OpenClaim := { program := "ytkdklcamgcmifaadoor", sum := "cdb3a1886bccbedf0a82f8978301621bbbed04165ebfbdfc683a0c25d4cbe05a", func := "codicil/codicillaw05.ZlibMemory", spec := "zlibMemory", named := ["codicil/inflate.order"], apart := false, laid := [("codicil/inflate.order", laid_codicil_inflate_order)] }
def ZlibMemorySaid : Prop := zlibMemoryRow.holds Tryd.pinned (OpenSpec.ofChange zlibMemorySpec)

/-- ITS FALSE NEIGHBOUR: 'it returns false'. Refute it at one input. -/
def zlibMemoryWrong : ChangeSpec := { name := "zlibMemory", fn := fun _ => fun
  | [d] => { results := [.lit (.bool false)], args := [d] }
  | _ => none }
def ZlibMemoryWrongFalsely : Prop := zlibMemoryRow.holds Tryd.pinned (OpenSpec.ofChange zlibMemoryWrong)

/- THE SECOND FORM. 'bulk': how many values and letters a reading holds, each counted each time it is reached (what is shared counts as often as it is met; a slice's spare places count too). A statement '..UptoSaid' is the law's where the arguments, and the package variables that the reading takes, are together of bulk at most 1048576: NARROWER than '..Said'. Prove '..Said' where nothing that the law and all that it calls make is longer than what came in: it says more and counts as full. Else prove '..UptoSaid'. A law counts once. -/
mutual
def uptoBulk {H : Type} : DataW H → Nat
  | .lit (.string bytes) => bytes.length + 1
  | .lit _ => 1
  | .nil => 1
  | .ptr d => uptoBulk d + 1
  | .slice elems spare => uptoBulkAll elems + uptoBulkAll spare + 1
  | .agg parts => uptoBulkAll parts + 1
  | .iface _ d => uptoBulk d + 1
  | .map entries => uptoBulkEntries entries + 1
  | .held _ => 1
def uptoBulkAll {H : Type} : List (DataW H) → Nat
  | [] => 0
  | d :: r => uptoBulk d + uptoBulkAll r
def uptoBulkEntries {H : Type} : List (Lit × DataW H) → Nat
  | [] => 0
  | x :: r => uptoBulkEntry x + uptoBulkEntries r
def uptoBulkEntry {H : Type} : Lit × DataW H → Nat
  | (.string bytes, d) => bytes.length + uptoBulk d + 1
  | (_, d) => uptoBulk d + 1
 end
def uptoSmall : (H : Type) → List (DataW H) → Bool := fun _ ds => decide (uptoBulkAll ds ≤ 1048576)
def OpenSpec.upto (s : _root_.Go.ChangeSpec) : _root_.Go.OpenSpec := { _root_.Go.OpenSpec.ofChange s with cond := some uptoSmall }

/-- 'codicillaw03.InflateEnds', WHERE WHAT IT READS IS OF BULK AT MOST 1048576: true; the input reads as it did. -/
def inflateEndsUptoRow : OpenClaim := { program := "ytkdklcamgcmifaadoor", sum := "cdb3a1886bccbedf0a82f8978301621bbbed04165ebfbdfc683a0c25d4cbe05a", func := "codicil/codicillaw03.InflateEnds", spec := "inflateEnds", named := ["codicil/inflate.order"], apart := false, laid := [("codicil/inflate.order", laid_codicil_inflate_order)], narrowed := true }
def InflateEndsUptoSaid : Prop := inflateEndsUptoRow.holds Tryd.pinned (OpenSpec.upto inflateEndsSpec)

/-- 'codicillaw03.InflateStored', WHERE WHAT IT READS IS OF BULK AT MOST 1048576: true; the input reads as it did. -/
def inflateStoredUptoRow : OpenClaim := { program := "ytkdklcamgcmifaadoor", sum := "cdb3a1886bccbedf0a82f8978301621bbbed04165ebfbdfc683a0c25d4cbe05a", func := "codicil/codicillaw03.InflateStored", spec := "inflateStored", named := ["codicil/inflate.order"], apart := false, laid := [("codicil/inflate.order", laid_codicil_inflate_order)], narrowed := true }
def InflateStoredUptoSaid : Prop := inflateStoredUptoRow.holds Tryd.pinned (OpenSpec.upto inflateStoredSpec)

/-- 'codicillaw03.InflateFixed', WHERE WHAT IT READS IS OF BULK AT MOST 1048576: true; the input reads as it did. -/
def inflateFixedUptoRow : OpenClaim := { program := "ytkdklcamgcmifaadoor", sum := "cdb3a1886bccbedf0a82f8978301621bbbed04165ebfbdfc683a0c25d4cbe05a", func := "codicil/codicillaw03.InflateFixed", spec := "inflateFixed", named := ["codicil/inflate.order"], apart := false, laid := [("codicil/inflate.order", laid_codicil_inflate_order)], narrowed := true }
def InflateFixedUptoSaid : Prop := inflateFixedUptoRow.holds Tryd.pinned (OpenSpec.upto inflateFixedSpec)

/-- 'codicillaw03.InflateMemory', WHERE WHAT IT READS IS OF BULK AT MOST 1048576: true; the input reads as it did. -/
def inflateMemoryUptoRow : OpenClaim := { program := "ytkdklcamgcmifaadoor", sum := "cdb3a1886bccbedf0a82f8978301621bbbed04165ebfbdfc683a0c25d4cbe05a", func := "codicil/codicillaw03.InflateMemory", spec := "inflateMemory", named := ["codicil/inflate.order"], apart := false, laid := [("codicil/inflate.order", laid_codicil_inflate_order)], narrowed := true }
def InflateMemoryUptoSaid : Prop := inflateMemoryUptoRow.holds Tryd.pinned (OpenSpec.upto inflateMemorySpec)

/-- 'codicillaw04.DeflateBack', WHERE WHAT IT READS IS OF BULK AT MOST 1048576: true; the input reads as it did. -/
def deflateBackUptoRow : OpenClaim := { program := "ytkdklcamgcmifaadoor", sum := "cdb3a1886bccbedf0a82f8978301621bbbed04165ebfbdfc683a0c25d4cbe05a", func := "codicil/codicillaw04.DeflateBack", spec := "deflateBack", named := ["codicil/inflate.order"], apart := false, laid := [("codicil/inflate.order", laid_codicil_inflate_order)], narrowed := true }
def DeflateBackUptoSaid : Prop := deflateBackUptoRow.holds Tryd.pinned (OpenSpec.upto deflateBackSpec)

/-- 'codicillaw04.DeflateFixed', WHERE WHAT IT READS IS OF BULK AT MOST 1048576: true; the input reads as it did. -/
def deflateFixedUptoRow : OpenClaim := { program := "ytkdklcamgcmifaadoor", sum := "cdb3a1886bccbedf0a82f8978301621bbbed04165ebfbdfc683a0c25d4cbe05a", func := "codicil/codicillaw04.DeflateFixed", spec := "deflateFixed", named := ["codicil/inflate.order"], apart := false, laid := [("codicil/inflate.order", laid_codicil_inflate_order)], narrowed := true }
def DeflateFixedUptoSaid : Prop := deflateFixedUptoRow.holds Tryd.pinned (OpenSpec.upto deflateFixedSpec)

/-- 'codicillaw05.ZlibBack', WHERE WHAT IT READS IS OF BULK AT MOST 1048576: true; the input reads as it did. -/
def zlibBackUptoRow : OpenClaim := { program := "ytkdklcamgcmifaadoor", sum := "cdb3a1886bccbedf0a82f8978301621bbbed04165ebfbdfc683a0c25d4cbe05a", func := "codicil/codicillaw05.ZlibBack", spec := "zlibBack", named := ["codicil/inflate.order"], apart := false, laid := [("codicil/inflate.order", laid_codicil_inflate_order)], narrowed := true }
def ZlibBackUptoSaid : Prop := zlibBackUptoRow.holds Tryd.pinned (OpenSpec.upto zlibBackSpec)

/-- 'codicillaw05.ZlibFixed', WHERE WHAT IT READS IS OF BULK AT MOST 1048576: true; the input reads as it did. -/
def zlibFixedUptoRow : OpenClaim := { program := "ytkdklcamgcmifaadoor", sum := "cdb3a1886bccbedf0a82f8978301621bbbed04165ebfbdfc683a0c25d4cbe05a", func := "codicil/codicillaw05.ZlibFixed", spec := "zlibFixed", named := ["codicil/inflate.order"], apart := false, laid := [("codicil/inflate.order", laid_codicil_inflate_order)], narrowed := true }
def ZlibFixedUptoSaid : Prop := zlibFixedUptoRow.holds Tryd.pinned (OpenSpec.upto zlibFixedSpec)

/-- 'codicillaw05.ZlibMemory', WHERE WHAT IT READS IS OF BULK AT MOST 1048576: true; the input reads as it did. -/
def zlibMemoryUptoRow : OpenClaim := { program := "ytkdklcamgcmifaadoor", sum := "cdb3a1886bccbedf0a82f8978301621bbbed04165ebfbdfc683a0c25d4cbe05a", func := "codicil/codicillaw05.ZlibMemory", spec := "zlibMemory", named := ["codicil/inflate.order"], apart := false, laid := [("codicil/inflate.order", laid_codicil_inflate_order)], narrowed := true }
def ZlibMemoryUptoSaid : Prop := zlibMemoryUptoRow.holds Tryd.pinned (OpenSpec.upto zlibMemorySpec)

end Rows
end Go.Proofs.YtkdklcamgcmifaaDoor
