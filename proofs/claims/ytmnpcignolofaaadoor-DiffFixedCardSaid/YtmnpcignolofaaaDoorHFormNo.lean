/- diff.inside and diff.inForm of what is not in form: the six hunks of DiffFixed. -/
import Derived.Test.YtmnpcignolofaaaDoorHAppW
namespace Go.Proofs.YtmnpcignolofaaaDoor
set_option linter.unusedVariables false
set_option linter.unusedSimpArgs false
open Go.RowKit Go.Shelf Go.Proofs.YtmnpcignolofaaaDoorW.PrintWords Go.Proofs.YtmnpcignolofaaaDoorW.PrintMore
theorem cv_2 (w : World) : (convert 3 110 (.int .i64 2)).run Tryd.prog w = .ok (.float .f64 4611686018427387904) w := by
  have h := cv_if 2 w
  rw [fl_2] at h
  exact h
theorem cv_00 (w : World) : (convert 3 110 (.int .i64 0)).run Tryd.prog w = .ok (.float .f64 0) w := by
  have h := cv_if 0 w
  rw [fl_0] at h
  exact h
theorem cv_half (w : World) : (convert 110 3 (.float .f64 4602678819172646912)).run Tryd.prog w = .ok (.int .i64 0) w := run_convert_float_int w 110 3 .f64 .i64 _ 0 (by kernel_rfl) Tryd.underlying3 (by decide +kernel)
set_option maxRecDepth 20000 in
set_option maxHeartbeats 4000000 in
/-- (-1, -1). -/
theorem inside_neg (W : World) : Calls Tryd.prog 61 #[.complex .f64 13830554455654793216 13830554455654793216, .int .i64 2, .int .i64 2] W fun e w' => e = .returned (.bool false) ∧ w' = W := by
  have g1 : (FloatKind.f64.format.order 13830554455654793216 0 == some .gt || FloatKind.f64.format.order 13830554455654793216 0 == some .eq) = false := by decide +kernel
  go_enter Tryd.func61, Tryd.ntmps61
  go_wp2_with fail
  go_ret
  exact ⟨rfl, rfl⟩
set_option maxRecDepth 20000 in
set_option maxHeartbeats 4000000 in
/-- (3, 2). -/
theorem inside_far (W : World) : Calls Tryd.prog 61 #[.complex .f64 4613937818241073152 4611686018427387904, .int .i64 2, .int .i64 2] W fun e w' => e = .returned (.bool false) ∧ w' = W := by
  have g1 : (FloatKind.f64.format.order 4613937818241073152 0 == some .gt || FloatKind.f64.format.order 4613937818241073152 0 == some .eq) = true := by decide +kernel
  have g2 : (FloatKind.f64.format.order 4613937818241073152 4611686018427387904 == some .lt || FloatKind.f64.format.order 4613937818241073152 4611686018427387904 == some .eq) = false := by decide +kernel
  have c2 := cv_2
  go_enter Tryd.func61, Tryd.ntmps61
  go_wp2_with fail
  go_ret
  exact ⟨rfl, rfl⟩
set_option maxRecDepth 20000 in
set_option maxHeartbeats 4000000 in
/-- (0.5, 0.5). -/
theorem inside_half (W : World) : Calls Tryd.prog 61 #[.complex .f64 4602678819172646912 4602678819172646912, .int .i64 2, .int .i64 2] W fun e w' => e = .returned (.bool false) ∧ w' = W := by
  have g1 : (FloatKind.f64.format.order 4602678819172646912 0 == some .gt || FloatKind.f64.format.order 4602678819172646912 0 == some .eq) = true := by decide +kernel
  have g2 : (FloatKind.f64.format.order 4602678819172646912 4611686018427387904 == some .lt || FloatKind.f64.format.order 4602678819172646912 4611686018427387904 == some .eq) = true := by decide +kernel
  have g3 : (FloatKind.f64.format.order 0 4602678819172646912 == some .eq) = false := by decide +kernel
  have c2 := cv_2
  have c0 := cv_00
  have ch := cv_half
  go_enter Tryd.func61, Tryd.ntmps61
  go_wp2_with fail
  have HP : Calls Tryd.prog 34 #[.complex .f64 4602678819172646912 4602678819172646912] W fun e w' => e = .returned (.tuple #[.int .i64 0, .int .i64 0]) ∧ w' = W := by
    clear g1 g2 g3 c2 c0
    go_enter Tryd.func34, Tryd.ntmps34
    go_wp2_with fail
    go_ret2
    exact ⟨rfl, rfl⟩
  refine HP.mono ?_
  rintro e w' ⟨rfl, rfl⟩
  go_wp2_with fail
  go_ret
  exact ⟨rfl, rfl⟩
end Go.Proofs.YtmnpcignolofaaaDoor
