-- Written by fprint.py, a program of this session, over the translation. Not trusted: Lean checks it.
import Derived.Test.YtanfodjjfajobaaPDSx0
import Derived.Test.YtanfodjjfajobaaPDSx1
namespace Go.Proofs.Ytanfodjjfajobaa.PDS
open Go.RowKit Go.Proofs.YtanfodjjfajobaaW.PrintWords Go.Proofs.YtanfodjjfajobaaW.PrintLast Go.Proofs.YtanfodjjfajobaaW.PrintMore
attribute [local go_sem] max2_int min2_int max_two min_two max_three min_three max_four min_four   -- for this text's walks alone
set_option linter.unusedVariables false
set_option linter.unusedSimpArgs false

end Go.Proofs.Ytanfodjjfajobaa.PDS
