/- Words for the walk of DiffShortest. -/
import Derived.Test.YtmnpcignolofaaaHPts
import Derived.Test.YtmnpcignolofaaaHShort
import Derived.Laws.BitsAllLaws
import Derived.Laws.BitsLemmas
namespace Go.Proofs.Ytmnpcignolofaaa
set_option linter.unusedVariables false
set_option linter.unusedSimpArgs false
open Go.RowKit Go.Proofs.YtmnpcignolofaaaW.PrintWords Go.Proofs.YtmnpcignolofaaaW.PrintMore
theorem and_one (v : Nat) (hv : v < 1099511627776) : bits .and .i64 (v : Int) 1 = ((v % 2 : Nat) : Int) := by
  have h := bits_mask .i64 40 (by decide) (fun n h0 h1 => by rw [IntKind.wrap_i64]; omega) 1 (by omega) (v : Int) (by omega) (by omega)
  simpa using h
theorem sel_skip {α : Type} {k : Nat} {s : α} {r : List α} (h : k % 2 = 0) : selF k (s :: r) = selF (k / 2) r := by rw [selF, if_neg (by omega)]
theorem sel_take {α : Type} {k : Nat} {s : α} {r : List α} (h : k % 2 = 1) : selF k (s :: r) = s :: selF (k / 2) r := by rw [selF, if_pos h]
theorem txs_drop (l : List ByteArray) (i : Nat) (h : i < l.length) : (txs l).drop i = tx (l.getD i ByteArray.empty) :: (txs l).drop (i + 1) := by
  rw [List.drop_eq_getElem_cons (by simpa [txs] using h)]
  simp [txs, List.getD_eq_getElem?_getD, List.getElem?_eq_getElem h]
theorem tx_inj {s t : ByteArray} (h : tx s = tx t) : s = t := by
  cases s; cases t
  simp [tx] at h
  simp [h]
end Go.Proofs.Ytmnpcignolofaaa
