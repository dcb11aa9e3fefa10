-- Written by fprint.py, a program of this session, over the translation. Not trusted: Lean checks it.
import Derived.Test.YtiocipmnmjpkfaaPUx0
import Derived.Test.YtiocipmnmjpkfaaPUx1
import Derived.Test.YtiocipmnmjpkfaaPUx2
namespace Go.Proofs.Ytiocipmnmjpkfaa.PU
open Go.RowKit Go.Proofs.YtiocipmnmjpkfaaW.PrintWords Go.Proofs.YtiocipmnmjpkfaaW.PrintLast Go.Proofs.YtiocipmnmjpkfaaW.PrintMore
attribute [local go_sem] max2_int min2_int max_two min_two max_three min_three max_four min_four   -- for this text's walks alone
set_option linter.unusedVariables false
set_option linter.unusedSimpArgs false

end Go.Proofs.Ytiocipmnmjpkfaa.PU
