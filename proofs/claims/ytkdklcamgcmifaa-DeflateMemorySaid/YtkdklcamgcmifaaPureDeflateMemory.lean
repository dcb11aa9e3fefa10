/- Bytes that are handed to Deflate stay as they are, spare room too, and its answers are new memory. No condition. -/
import Derived.Test.YtkdklcamgcmifaaPDWx5
namespace Go.Proofs.Ytkdklcamgcmifaa.Pure
open Go.Proofs.Ytkdklcamgcmifaa.PDW
theorem DeflateMemory : codicillaw04_DeflateMemory.Pure := trivial
end Go.Proofs.Ytkdklcamgcmifaa.Pure
