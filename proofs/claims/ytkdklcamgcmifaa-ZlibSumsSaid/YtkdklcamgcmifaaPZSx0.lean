-- Written by fprint.py, a program of this session, over the translation. Not trusted: Lean checks it.
import Derived.Test.YtkdklcamgcmifaaProg
import Derived.Below
import Derived.Deep.Draws
import Derived.Deep.AppendLies
import Derived.Maps.AppendAt
import Derived.OwnWalk
import Derived.Laws.BytesArg
import Derived.Laws.MakeOwn
import Derived.Laws.OwnMore
import Derived.Deep.OwnRows
import Derived.Tactics
import Derived.Lib.ConvBytes
import Derived.Laws.Slices
import Derived.WalkKit
import Derived.KernelRfl
import Derived.RowKit3
import Derived.Deep.LoopGhost
import Derived.Deep.QuietTactic
import Derived.BigQuiet
import Derived.WideLaws
import Derived.Deep.DeepCutAuto
import Derived.Deep.CutBlock
import Derived.Deep.RegionHeld3
import Derived.Laws.Rows
import Derived.Lib.AppendStr
import Derived.ArgAppend
import Derived.Laws.IdiomCopy
import Derived.OrdersHeld
import Derived.Laws.BitsLemmas
import Derived.RowKit
import Derived.Test.YtkdklcamgcmifaaHRow
import Derived.Test.YtkdklcamgcmifaaHConst
import Derived.Test.YtkdklcamgcmifaaWWords
import Derived.Test.YtkdklcamgcmifaaWLast
import Derived.Test.YtkdklcamgcmifaaWTab
import Derived.Test.YtkdklcamgcmifaaWFour
import Derived.Test.YtkdklcamgcmifaaWQPut
import Derived.Test.YtkdklcamgcmifaaWApart
import Derived.Test.YtkdklcamgcmifaaWArr
import Derived.Test.YtkdklcamgcmifaaWZeros
import Derived.Test.YtkdklcamgcmifaaWFoot
import Derived.Test.YtkdklcamgcmifaaWKept
import Derived.Test.YtkdklcamgcmifaaWShare
import Derived.Test.YtkdklcamgcmifaaWN
import Derived.Test.YtkdklcamgcmifaaWFootNe
import Derived.Test.YtkdklcamgcmifaaWAt
import Derived.Test.YtkdklcamgcmifaaWEqStruct
import Derived.Test.YtkdklcamgcmifaaWRepsOne
import Derived.Test.YtkdklcamgcmifaaWInv
import Derived.Test.YtkdklcamgcmifaaWInvWords
import Derived.Test.YtkdklcamgcmifaaWGuard
import Derived.Test.YtkdklcamgcmifaaWNEv
import Derived.Test.YtkdklcamgcmifaaWMore
namespace Go.Proofs.Ytkdklcamgcmifaa.PZS
open Go.RowKit Go.Proofs.YtkdklcamgcmifaaW.PrintWords Go.Proofs.YtkdklcamgcmifaaW.PrintLast Go.Proofs.YtkdklcamgcmifaaW.PrintMore
attribute [local go_sem] max2_int min2_int max_two min_two max_three min_three max_four min_four   -- for this text's walks alone
set_option linter.unusedVariables false
set_option linter.unusedSimpArgs false



def errW : Option Int → Value
  | none => .nilIface
  | some c => .iface 0 (.int .i64 c)
theorem errW_none : errW none = .nilIface := rfl
theorem errW_some (c : Int) : errW (some c) = .iface 0 (.int .i64 c) := rfl

theorem info5 : (Try.prog.info? 5).map (fun i => (i.zero, i.size, i.bytes)) = some (some (.int .u8 0), 1, 1) := by kernel_rfl
-- the values' own types

end Go.Proofs.Ytkdklcamgcmifaa.PZS
