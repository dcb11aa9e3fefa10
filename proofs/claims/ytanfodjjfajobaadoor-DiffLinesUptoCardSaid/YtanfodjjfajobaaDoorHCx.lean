/- Whole numbers up to 61 as float64: their bits. -/
import Derived.Test.YtanfodjjfajobaaDoorHLayW
import Derived.Laws.ComplexArith
namespace Go.Proofs.YtanfodjjfajobaaDoor
set_option linter.unusedVariables false
set_option linter.unusedSimpArgs false
open Go.RowKit Go.Proofs.YtanfodjjfajobaaDoorW.PrintWords Go.Proofs.YtanfodjjfajobaaDoorW.PrintMore
def fl (n : Nat) : Nat := floatOfInt .f64 (n : Int)
theorem fl_0 : fl 0 = 0 := by decide +kernel
theorem fl_1 : fl 1 = 4607182418800017408 := by decide +kernel
theorem fl_add1 : ∀ n : Fin 62, floatBits .add .f64 (fl n.val) 4607182418800017408 = some (fl (n.val + 1)) := by decide +kernel
theorem fl_add0 : ∀ n : Fin 62, floatBits .add .f64 (fl n.val) 0 = some (fl n.val) := by decide +kernel
theorem fl_int : ∀ n : Fin 62, floatToIntVal .f64 (fl n.val) .i64 = some (n.val : Int) := by decide +kernel
theorem fl_eq : ∀ n m : Fin 62, (FloatKind.f64.format.order (fl n.val) (fl m.val) == some .eq) = decide (n.val = m.val) := by decide +kernel
end Go.Proofs.YtanfodjjfajobaaDoor
