/- Way 0 of deflate has five bytes more for each block; way 2 is the shorter one; way 1 is at most nine bits a byte. No condition. -/
import Derived.Test.YtkdklcamgcmifaaPDWx4
namespace Go.Proofs.Ytkdklcamgcmifaa.Pure
open Go.Proofs.Ytkdklcamgcmifaa.PDW
theorem DeflateSizes : codicillaw04_DeflateSizes.Pure := trivial
end Go.Proofs.Ytkdklcamgcmifaa.Pure
