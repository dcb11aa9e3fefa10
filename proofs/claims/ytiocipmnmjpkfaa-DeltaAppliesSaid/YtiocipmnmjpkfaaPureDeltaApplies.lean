/- Apply and DocApply answer the same, for any bytes: both answer what 'applyF' says. No condition. -/
import Derived.Test.YtiocipmnmjpkfaaPDAx2
namespace Go.Proofs.Ytiocipmnmjpkfaa.Pure
open Go.RowKit Go.Proofs.Ytiocipmnmjpkfaa Go.Proofs.YtiocipmnmjpkfaaW.PrintWords Go.Proofs.YtiocipmnmjpkfaaW.PrintLast Go.Proofs.YtiocipmnmjpkfaaW.PrintMore Go.Proofs.Ytiocipmnmjpkfaa.PDA
theorem da_twin (l : List Int) (hl : l.length ≤ 100000) : codicilref01_Twin.f l = some l := by
  unfold codicilref01_Twin.f
  rw [if_pos (by simp; omega)]
  rfl
theorem da_bytes {l : List Int} (h : ∀ x ∈ l, (Lit.int .u8 x).wf = true) : inBytes l = true := inBytes_iff.2 fun x hx => by have := h x hx; simp [Lit.wf, IntKind.min, IntKind.max, IntKind.signed, IntKind.bits] at this; omega
theorem DeltaApplies : codicillaw08_DeltaApplies.Pure := by
  intro l0 l1 a2 _ _ _ _ _ hb _
  refine ⟨1, ?_⟩
  unfold codicillaw08_DeltaApplies.f
  rw [show codicillaw08_awake.f = some true from rfl]
  simp only [Option.bind_some, if_true]
  have key : l0.length ≤ 100000 → l1.length ≤ 3000 → codicillaw08_DeltaApplies.j0 1 l0 l1 a2 false = some true := by
    intro h0 h1
    simp only [codicillaw08_DeltaApplies.j0]
    rw [if_neg (by simp), da_twin l0 (by omega), da_twin l1 (by omega)]
    simp only [Option.bind_some]
    unfold delta_Apply.f codicilref08_DocApply.f
    rw [if_pos ⟨da_bytes hb, by omega, by omega⟩]
    simp only [Option.bind_some]
    simp [codicilref01_Same.f]
  have yes : codicillaw08_DeltaApplies.j0 1 l0 l1 a2 true = some true := by
    rfl
  split
  · exact yes
  · split
    · exact yes
    · split
      · by_cases h : a2 ≤ 1048576
        · rw [decide_eq_true h]; exact yes
        · rw [decide_eq_false h]; exact key (by omega) (by omega)
      · exact key (by omega) (by omega)
end Go.Proofs.Ytiocipmnmjpkfaa.Pure
