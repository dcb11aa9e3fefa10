/- slices.Clone at []string: a new row of the same lines. -/
import Derived.Test.YtmnpcignolofaaaHRw
import Derived.Test.YtmnpcignolofaaaWMore
import Derived.Lib.SliceRun
namespace Go.Proofs.Ytmnpcignolofaaa
set_option linter.unusedVariables false
set_option linter.unusedSimpArgs false
open Go.RowKit Go.Shelf Go.Proofs.YtmnpcignolofaaaW.PrintWords Go.Proofs.YtmnpcignolofaaaW.PrintMore
theorem infoS : (Try.prog.info? 9).map (fun i => (i.zero, i.size, i.bytes)) = some (some (.string .empty), 1, 16) := by kernel_rfl
set_option maxRecDepth 20000 in
set_option maxHeartbeats 4000000 in
theorem cloneLines_calls (w : World) (A : Option Addr) (c : Nat) (a : List ByteArray) (ha : ReadsOf Value.string ByteArray.empty w A a.length a) (hm : a.length ≤ 1000) :
    Calls Try.prog 38 #[.slice A a.length c] w fun e w' => ∃ v, e = .returned v ∧ w'.ownsRow w.heap.size 9 1 v a.length (encs Value.string a) ∧ Below w.heap.size w w' := by
  have HA := Lib.hid ha
  have hnil := Go.Lib.run_eql_slice_nil (P := Try.prog) w 22 9 A a.length c 0 0 Try.underlying22
  cases A with
  | none =>
    have h0 : a = [] := by
      rcases Nat.eq_zero_or_pos a.length with h0 | h0
      · exact List.eq_nil_of_length_eq_zero h0
      · obtain ⟨ad, h, _⟩ := ha.2.2 h0
        cases h
    subst h0
    clear ha HA
    simp only [List.length_nil, Option.isNone_none] at hnil ⊢
    go_enter Try.func38, Try.ntmps38
    go_wp2_with fail
    go_ret
    exact ⟨_, rfl, own_nil _ _ _ _, Below.refl _ _⟩
  | some ad =>
    clear ha
    have HO0 := Lib.hid (World.ownsRow_made (e := 9) (size := 1) w #[] 0 (Nat.le_refl _) (by decide) rfl)
    go_enter Try.func38, Try.ntmps38
    go_wp2_with (
      at_builtin
      refine print_append_row_of (w0 := w) Value.string ByteArray.empty w.heap.size rfl _ _ 22 9 (.string .empty) 16 rfl Try.underlying22 infoS rfl (by decide) (fun _ => rfl) (.slice (some ⟨w.heap.size, 0, none⟩) 0 0) [] a (some ad) a.length c rfl rfl HO0.out (HA.out.below (below_alloc (Below.refl _ _) _)) (below_alloc (Below.refl _ _) _) (by simp) (by simp only [List.length_nil]; omega) ?_
      intro v1 w1 hown hbel hgrow hat
      have HO := Lib.hid hown
      have HB := Lib.hid hbel
      clear hown hbel hgrow hat)
    go_ret
    exact ⟨v1, rfl, HO.out, HB.out⟩
end Go.Proofs.Ytmnpcignolofaaa
