/- num's Put calls write just the bytes that the document's do, for any bytes ahead and any numbers. No condition. -/
import Derived.Test.YtiocipmnmjpkfaaPNum
namespace Go.Proofs.Ytiocipmnmjpkfaa.Pure
set_option linter.unusedVariables false
set_option linter.unusedSimpArgs false
open Go.RowKit Go.Proofs.YtiocipmnmjpkfaaW.PrintWords Go.Proofs.YtiocipmnmjpkfaaW.PrintLast Go.Proofs.YtiocipmnmjpkfaaW.PrintMore Go.Proofs.Ytiocipmnmjpkfaa.PA

theorem NumPuts : codicillaw02_NumPuts.Pure := by
  intro l v n _ hl _ hv hn
  have hv' : 0 ≤ v ∧ v ≤ 18446744073709551615 := by simpa [Lit.wf, IntKind.min, IntKind.max, IntKind.signed, IntKind.bits] using hv
  have hn' : -9223372036854775808 ≤ n ∧ n ≤ 9223372036854775807 := by simpa [Lit.wf, IntKind.min, IntKind.max, IntKind.signed, IntKind.bits] using hn
  refine ⟨100, ?_⟩
  obtain ⟨r1, p1, p2⟩ := big_same 100 l v n (by omega) hv'.1 (by omega) (by omega) hn'
  obtain ⟨r2, p3, p4⟩ := head_same 100 l n v (by omega) hv'.1 (by omega) (by omega)
  unfold codicillaw02_NumPuts.f
  rw [awake_f, twin_f l (by omega)]
  simp only [Option.bind_some, if_true]
  rw [p1, p2, p3, p4]
  simp only [Option.bind_some]
  rw [same_self, same_self, docSize_f 100 l v (by omega) hv'.1 (by omega) (by omega), docSpan_f 100 l v (by omega) hv'.1 (by omega) (by omega)]
  simp only [Option.bind_some, if_true]
  unfold num_PutSize.f num_PutSpan.f
  rw [if_pos ⟨by omega, hv'.1, by omega⟩, if_pos ⟨by omega, hv'.1, by omega⟩]
  simp only [Option.bind_some]
  rw [same_self, same_self]
  rfl
end Go.Proofs.Ytiocipmnmjpkfaa.Pure
