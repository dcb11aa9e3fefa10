/- Deflate writes just the bytes that the document says, for any bytes (up to 3,000) and any way. No condition. -/
import Derived.Test.YtkdklcamgcmifaaPDW
namespace Go.Proofs.Ytkdklcamgcmifaa.Pure
open Go.RowKit Go.Proofs.Ytkdklcamgcmifaa Go.Proofs.YtkdklcamgcmifaaW.PrintWords Go.Proofs.YtkdklcamgcmifaaW.PrintLast Go.Proofs.YtkdklcamgcmifaaW.PrintMore Go.Proofs.Ytkdklcamgcmifaa.PDW
theorem DeflateWrites : codicillaw04_DeflateWrites.Pure := by
  intro l a _ _ hlb _
  have hb := wf_bytes hlb
  refine ⟨1, ?_⟩
  unfold codicillaw04_DeflateWrites.f
  rw [show codicillaw04_awake.f = some true from rfl]
  simp only [Option.bind_some, if_true]
  by_cases h : (l.length : Int) > 3000
  · rw [if_pos h]
  · rw [if_neg h, twin_is l (by omega)]
    simp only [Option.bind_some]
    rw [prog_is l a (by omega) hb, doc_is l a 0 (by omega) hb]
    simp only [Option.bind_some]
    rw [same_is]
    simp
end Go.Proofs.Ytkdklcamgcmifaa.Pure
