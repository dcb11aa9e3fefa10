/- codicilref19.TwinLines: a new row of the same lines. -/
import Derived.Test.YtmnpcignolofaaaHClone
namespace Go.Proofs.Ytmnpcignolofaaa
set_option linter.unusedVariables false
set_option linter.unusedSimpArgs false
open Go.RowKit Go.Shelf Go.Proofs.YtmnpcignolofaaaW.PrintWords Go.Proofs.YtmnpcignolofaaaW.PrintMore
set_option maxRecDepth 20000 in
set_option maxHeartbeats 4000000 in
theorem twinLines_calls (w : World) (A : Option Addr) (c : Nat) (a : List ByteArray) (ha : ReadsOf Value.string ByteArray.empty w A a.length a) (hm : a.length ≤ 1000) :
    Calls Try.prog 22 #[.slice A a.length c] w fun e w' => ∃ v, e = .returned v ∧ w'.ownsRow w.heap.size 9 1 v a.length (encs Value.string a) ∧ Below w.heap.size w w' := by
  have HA := Lib.hid ha
  clear ha
  go_enter Try.func22, Try.ntmps22
  go_wp2_with (
    at_builtin
    refine print_append_row_of (w0 := w) Value.string ByteArray.empty w.heap.size rfl _ _ 22 9 (.string .empty) 16 rfl Try.underlying22 infoS rfl (by decide) (fun _ => rfl) (.slice none 0 0) [] a A a.length c rfl rfl (own_nil _ _ _ _) HA.out (Below.refl _ _) (Nat.le_refl _) (by simp only [List.length_nil]; omega) ?_
    intro v1 w1 hown hbel hgrow hat
    have HO := Lib.hid hown
    have HB := Lib.hid hbel
    clear hown hbel hgrow hat)
  go_ret
  exact ⟨v1, rfl, HO.out, HB.out⟩
end Go.Proofs.Ytmnpcignolofaaa
