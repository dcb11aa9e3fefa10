/- delta: the examples of the document hold, and the limits: the walk runs them through; here, that the law is awake. No condition. -/
import Derived.Test.YtiocipmnmjpkfaaPDFx
namespace Go.Proofs.Ytiocipmnmjpkfaa.Pure
set_option linter.unusedVariables false
set_option linter.unusedSimpArgs false
open Go.RowKit Go.Proofs.Ytiocipmnmjpkfaa.PDF Go.Proofs.YtiocipmnmjpkfaaW.PrintWords Go.Proofs.YtiocipmnmjpkfaaW.PrintLast
theorem DeltaFixed : codicillaw08_DeltaFixed.Pure := by
  show codicillaw08_awake.f = some true
  decide +kernel
end Go.Proofs.Ytiocipmnmjpkfaa.Pure
