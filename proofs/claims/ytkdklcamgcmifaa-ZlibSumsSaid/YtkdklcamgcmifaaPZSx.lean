-- Written by fprint.py, a program of this session, over the translation. Not trusted: Lean checks it.
import Derived.Test.YtkdklcamgcmifaaPZSx0
import Derived.Test.YtkdklcamgcmifaaPZSx1
namespace Go.Proofs.Ytkdklcamgcmifaa.PZS
open Go.RowKit Go.Proofs.YtkdklcamgcmifaaW.PrintWords Go.Proofs.YtkdklcamgcmifaaW.PrintLast Go.Proofs.YtkdklcamgcmifaaW.PrintMore
attribute [local go_sem] max2_int min2_int max_two min_two max_three min_three max_four min_four   -- for this text's walks alone
set_option linter.unusedVariables false
set_option linter.unusedSimpArgs false

end Go.Proofs.Ytkdklcamgcmifaa.PZS
