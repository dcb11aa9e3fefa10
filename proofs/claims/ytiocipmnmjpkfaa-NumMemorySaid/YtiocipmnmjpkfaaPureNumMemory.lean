/- num's calls leave the bytes that they are handed as they are, spare room too, and answer in new memory. No condition. -/
import Derived.Test.YtiocipmnmjpkfaaPNum
import Derived.Test.YtiocipmnmjpkfaaPAx3
namespace Go.Proofs.Ytiocipmnmjpkfaa.Pure
set_option linter.unusedVariables false
set_option linter.unusedSimpArgs false
open Go.RowKit Go.Proofs.Ytiocipmnmjpkfaa.PA Go.Proofs.YtiocipmnmjpkfaaW.PrintWords Go.Proofs.YtiocipmnmjpkfaaW.PrintLast
theorem NumMemory : codicillaw02_NumMemory.Pure := ⟨awake_f, fun l v hl h0 h1 => ⟨100, docSize_f 100 l v (by omega) h0 h1 (by omega)⟩⟩
end Go.Proofs.Ytiocipmnmjpkfaa.Pure
