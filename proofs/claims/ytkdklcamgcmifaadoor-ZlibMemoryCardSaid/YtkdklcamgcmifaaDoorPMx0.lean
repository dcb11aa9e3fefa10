-- Written by fprint.py, a program of this session, over the translation. Not trusted: Lean checks it.
import Derived.Test.YtkdklcamgcmifaaDoorProg
import Derived.Below
import Derived.Deep.Draws
import Derived.Deep.AppendLies
import Derived.Maps.AppendAt
import Derived.OwnWalk
import Derived.Laws.BytesArg
import Derived.Laws.MakeOwn
import Derived.Laws.OwnMore
import Derived.Deep.OwnRows
import Derived.Tactics
import Derived.Lib.ConvBytes
import Derived.Laws.Slices
import Derived.WalkKit
import Derived.KernelRfl
import Derived.RowKit3
import Derived.Deep.LoopGhost
import Derived.Deep.QuietTactic
import Derived.BigQuiet
import Derived.WideLaws
import Derived.Deep.DeepCutAuto
import Derived.Deep.CutBlock
import Derived.Deep.RegionHeld3
import Derived.Laws.Rows
import Derived.Lib.AppendStr
import Derived.ArgAppend
import Derived.Laws.IdiomCopy
import Derived.OrdersHeld
import Derived.Laws.BitsLemmas
import Derived.RowKit
import Derived.Test.YtkdklcamgcmifaaDoorHRow
import Derived.Test.YtkdklcamgcmifaaDoorHConst
import Derived.Test.YtkdklcamgcmifaaDoorHLen
import Derived.Test.YtkdklcamgcmifaaDoorHBits
import Derived.Test.YtkdklcamgcmifaaDoorHBitN
import Derived.Test.YtkdklcamgcmifaaDoorHBitR
import Derived.Test.YtkdklcamgcmifaaDoorHBitC
import Derived.Test.YtkdklcamgcmifaaDoorHFind
import Derived.Test.YtkdklcamgcmifaaDoorHNote
import Derived.Test.YtkdklcamgcmifaaDoorHNoteW
import Derived.Test.YtkdklcamgcmifaaDoorHDoc
import Derived.Test.YtkdklcamgcmifaaDoorHNoteY
import Derived.Test.YtkdklcamgcmifaaDoorHMatch
import Derived.Test.YtkdklcamgcmifaaDoorHMake
import Derived.Test.YtkdklcamgcmifaaDoorHSmash
import Derived.Test.YtkdklcamgcmifaaDoorWWords
import Derived.Test.YtkdklcamgcmifaaDoorWLast
import Derived.Test.YtkdklcamgcmifaaDoorWTab
import Derived.Test.YtkdklcamgcmifaaDoorWFour
import Derived.Test.YtkdklcamgcmifaaDoorWQPut
import Derived.Test.YtkdklcamgcmifaaDoorWApart
import Derived.Test.YtkdklcamgcmifaaDoorWArr
import Derived.Test.YtkdklcamgcmifaaDoorWZeros
import Derived.Test.YtkdklcamgcmifaaDoorWFoot
import Derived.Test.YtkdklcamgcmifaaDoorWKept
import Derived.Test.YtkdklcamgcmifaaDoorWShare
import Derived.Test.YtkdklcamgcmifaaDoorWN
import Derived.Test.YtkdklcamgcmifaaDoorWRepsOne
import Derived.Test.YtkdklcamgcmifaaDoorWInv
import Derived.Test.YtkdklcamgcmifaaDoorWNEv
import Derived.Test.YtkdklcamgcmifaaDoorWMore
namespace Go.Proofs.YtkdklcamgcmifaaDoor.PM
open Go.RowKit Go.Proofs.YtkdklcamgcmifaaDoorW.PrintWords Go.Proofs.YtkdklcamgcmifaaDoorW.PrintLast Go.Proofs.YtkdklcamgcmifaaDoorW.PrintMore
attribute [local go_sem] max2_int min2_int max_two min_two max_three min_three max_four min_four   -- for this text's walks alone
set_option linter.unusedVariables false
set_option linter.unusedSimpArgs false



def errW : Option Int → Value
  | none => .nilIface
  | some c => .iface 0 (.int .i64 c)
theorem errW_none : errW none = .nilIface := rfl
theorem errW_some (c : Int) : errW (some c) = .iface 0 (.int .i64 c) := rfl

theorem info5 : (Tryd.prog.info? 5).map (fun i => (i.zero, i.size, i.bytes)) = some (some (.int .u8 0), 1, 1) := by kernel_rfl
-- the values' own types
end Go.Proofs.YtkdklcamgcmifaaDoor.PM

