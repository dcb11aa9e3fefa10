/- num's examples and greatest numbers hold: the walk runs them through; here, that the law is awake. No condition. -/
import Derived.Test.YtiocipmnmjpkfaaPFx
namespace Go.Proofs.Ytiocipmnmjpkfaa.Pure
set_option linter.unusedVariables false
set_option linter.unusedSimpArgs false
open Go.RowKit Go.Proofs.Ytiocipmnmjpkfaa.PF
theorem NumFixed : codicillaw02_NumFixed.Pure := by
  show codicillaw02_awake.f = some true
  decide +kernel
end Go.Proofs.Ytiocipmnmjpkfaa.Pure
