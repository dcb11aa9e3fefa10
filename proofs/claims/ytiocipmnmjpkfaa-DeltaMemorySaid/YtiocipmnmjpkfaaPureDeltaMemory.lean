/- Bytes that are handed to Make and Apply stay as they are, spare room too, and their answers are new memory. No condition. -/
import Derived.Test.YtiocipmnmjpkfaaPDYx1
namespace Go.Proofs.Ytiocipmnmjpkfaa.Pure
open Go.Proofs.Ytiocipmnmjpkfaa.PDY
theorem DeltaMemory : codicillaw08_DeltaMemory.Pure := trivial
end Go.Proofs.Ytiocipmnmjpkfaa.Pure
