-- Written by fprint.py, a program of this session, over the translation. Not trusted: Lean checks it.
import Derived.Test.YtanfodjjfajobaaDoorProg
import Derived.Below
import Derived.Deep.Draws
import Derived.Deep.AppendLies
import Derived.Maps.AppendAt
import Derived.OwnWalk
import Derived.Laws.BytesArg
import Derived.Laws.MakeOwn
import Derived.Laws.OwnMore
import Derived.Deep.OwnRows
import Derived.Tactics
import Derived.Lib.ConvBytes
import Derived.Laws.Slices
import Derived.WalkKit
import Derived.KernelRfl
import Derived.RowKit3
import Derived.Deep.LoopGhost
import Derived.Deep.QuietTactic
import Derived.BigQuiet
import Derived.WideLaws
import Derived.Deep.DeepCutAuto
import Derived.Deep.CutBlock
import Derived.Deep.RegionHeld3
import Derived.Laws.Rows
import Derived.Lib.AppendStr
import Derived.ArgAppend
import Derived.Laws.IdiomCopy
import Derived.OrdersHeld
import Derived.Laws.BitsLemmas
import Derived.RowKit
import Derived.Test.YtanfodjjfajobaaDoorHRow
import Derived.Test.YtanfodjjfajobaaDoorHConst
import Derived.Test.YtanfodjjfajobaaDoorHNumb
import Derived.Test.YtanfodjjfajobaaDoorHPlane
import Derived.Test.YtanfodjjfajobaaDoorHDist
import Derived.Test.YtanfodjjfajobaaDoorHLay
import Derived.Test.YtanfodjjfajobaaDoorHLayW
import Derived.Test.YtanfodjjfajobaaDoorHCx
import Derived.Test.YtanfodjjfajobaaDoorHWay
import Derived.Test.YtanfodjjfajobaaDoorHStep
import Derived.Test.YtanfodjjfajobaaDoorHWayL
import Derived.Test.YtanfodjjfajobaaDoorHWayF
import Derived.Test.YtanfodjjfajobaaDoorWWords
import Derived.Test.YtanfodjjfajobaaDoorWLast
import Derived.Test.YtanfodjjfajobaaDoorWTab
import Derived.Test.YtanfodjjfajobaaDoorWFour
import Derived.Test.YtanfodjjfajobaaDoorWQPut
import Derived.Test.YtanfodjjfajobaaDoorWApart
import Derived.Test.YtanfodjjfajobaaDoorWArr
import Derived.Test.YtanfodjjfajobaaDoorWZeros
import Derived.Test.YtanfodjjfajobaaDoorWFoot
import Derived.Test.YtanfodjjfajobaaDoorWKept
import Derived.Test.YtanfodjjfajobaaDoorWShare
import Derived.Test.YtanfodjjfajobaaDoorWN
import Derived.Test.YtanfodjjfajobaaDoorWFootNe
import Derived.Test.YtanfodjjfajobaaDoorWAt
import Derived.Test.YtanfodjjfajobaaDoorWEqStruct
import Derived.Test.YtanfodjjfajobaaDoorWRepsOne
import Derived.Test.YtanfodjjfajobaaDoorWInv
import Derived.Test.YtanfodjjfajobaaDoorWInvWords
import Derived.Test.YtanfodjjfajobaaDoorWGuard
import Derived.Test.YtanfodjjfajobaaDoorWNEv
import Derived.Test.YtanfodjjfajobaaDoorWMore
namespace Go.Proofs.YtanfodjjfajobaaDoor.PL
open Go.RowKit Go.Proofs.YtanfodjjfajobaaDoorW.PrintWords Go.Proofs.YtanfodjjfajobaaDoorW.PrintLast Go.Proofs.YtanfodjjfajobaaDoorW.PrintMore
attribute [local go_sem] max2_int min2_int max_two min_two max_three min_three max_four min_four   -- for this text's walks alone
set_option linter.unusedVariables false
set_option linter.unusedSimpArgs false



def errW : Option Int → Value
  | none => .nilIface
  | some c => .iface 0 (.int .i64 c)
theorem errW_none : errW none = .nilIface := rfl
theorem errW_some (c : Int) : errW (some c) = .iface 0 (.int .i64 c) := rfl

-- the values' own types
def rd_L1 (xs : List (List ByteArray)) (i : Int) : (List ByteArray) := xs.getD i.toNat ([] : List ByteArray)
theorem at_L1 {w : World} {A : Option Addr} {n : Nat} {xs : List (List ByteArray)} (h : Kd.C (Kd.slice 9 Kd.string) w A n xs) (i : Int) (h0 : 0 ≤ i) (h1 : i < n) : ∃ ad A0 c0, A = some ad ∧ w.cell? (ad.add i.toNat) = some (.slice A0 (rd_L1 xs i).length c0) ∧ (rd_L1 xs i).length ≤ c0 ∧ Kd.string.C w A0 (rd_L1 xs i).length (rd_L1 xs i) := by
  obtain ⟨ad, c, e, _, hK, hc0⟩ := Kd.C_get h ([] : List ByteArray) i h0 h1
  have hc : ∀ j u, c[j]? = some u → w.cell? (ad.add (i.toNat * 1 + j)) = some u := hc0
  obtain ⟨A0, c0, rfl, l0, g0⟩ := hK
  exact ⟨ad, A0, c0, e, by have hq := hc 0 _ rfl; rwa [Nat.mul_one, Nat.add_zero] at hq, l0, g0⟩

end Go.Proofs.YtanfodjjfajobaaDoor.PL
