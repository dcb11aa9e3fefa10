/- Deflate, by the program and by the document: what both answer, up to 60,000 bytes. -/
import Derived.Test.YtkdklcamgcmifaaPDWx4
namespace Go.Proofs.Ytkdklcamgcmifaa.Pure
set_option linter.unusedVariables false
set_option linter.unusedSimpArgs false
open Go.RowKit Go.Proofs.Ytkdklcamgcmifaa Go.Proofs.YtkdklcamgcmifaaW.PrintWords Go.Proofs.YtkdklcamgcmifaaW.PrintLast Go.Proofs.YtkdklcamgcmifaaW.PrintMore Go.Proofs.Ytkdklcamgcmifaa.PDW
theorem fixed_f (l : List Int) (hl : l.length ≤ 60000) (hb : ∀ x ∈ l, 0 ≤ x ∧ x < 256) : deflate_fixed.f l = some (fixedB l) ∧ codicilref04_Fixed.f l = some (fixedB l) := by
  unfold deflate_fixed.f codicilref04_Fixed.f
  rw [if_pos ⟨by omega, hb⟩]
  exact ⟨rfl, rfl⟩
theorem stored_f (l : List Int) (hl : l.length ≤ 60000) : deflate_stored.f l = some (storedB l) ∧ codicilref04_Stored.f l = some (storedB l) := by
  unfold deflate_stored.f codicilref04_Stored.f
  rw [if_pos (by omega)]
  exact ⟨rfl, rfl⟩
theorem prog_is (l : List Int) (a : Int) (hl : l.length ≤ 60000) (hb : ∀ x ∈ l, 0 ≤ x ∧ x < 256) : deflate_Deflate.f l a = some (docD l a) := by
  unfold deflate_Deflate.f
  rw [if_pos ⟨hl, hb⟩]
theorem ref_is (l : List Int) (a : Int) (hl : l.length ≤ 60000) (hb : ∀ x ∈ l, 0 ≤ x ∧ x < 256) (h0 : ¬ (a < 0 ∨ 2 < a)) : codicilref04_Deflate.f l a = some (docD l a).1 ∧ (docD l a).2 = 0 := by
  have hF := (fixed_f l hl hb).2
  have hS := (stored_f l hl).2
  unfold codicilref04_Deflate.f docD
  simp only [hF, hS, Option.bind_some]
  rw [if_neg h0]
  by_cases h3 : a = 0
  · rw [if_pos h3, if_pos h3]; exact ⟨rfl, rfl⟩
  · rw [if_neg h3, if_neg h3]
    by_cases h4 : a = 2
    · rw [if_pos h4]
      by_cases h5 : (storedB l).length ≤ (fixedB l).length
      · rw [if_pos (by omega), if_pos ⟨h4, h5⟩]; exact ⟨rfl, rfl⟩
      · rw [if_neg (by omega), if_neg (fun h => h5 h.2)]; exact ⟨rfl, rfl⟩
    · rw [if_neg h4, if_neg (fun h => h4 h.1)]; exact ⟨rfl, rfl⟩
theorem doc_is (l : List Int) (a : Int) (k : Nat) (hl : l.length ≤ 60000) (hb : ∀ x ∈ l, 0 ≤ x ∧ x < 256) : codicilref04_DocDeflate.f (k + 1) l a = some (docD l a) := by
  unfold codicilref04_DocDeflate.f
  simp only [codicilref04_DocDeflate.j0]
  by_cases h1 : a < 0
  · rw [if_pos h1, if_pos trivial, docD, if_pos (Or.inl h1)]
  · rw [if_neg h1]
    by_cases h2 : 2 < a
    · rw [if_pos (by simpa using h2), docD, if_pos (Or.inr h2)]
    · have h := ref_is l a hl hb (by omega)
      rw [if_neg (by simpa using h2), if_neg (by omega), h.1]
      simp only [Option.bind_some]
      rw [← h.2]
theorem twin_is (l : List Int) (hl : l.length ≤ 60000) : codicilref01_Twin.f l = some l := by
  unfold codicilref01_Twin.f
  rw [if_pos (by simp; omega)]
  rfl
theorem same_is (l : List Int) : codicilref01_Same.f l l = some true := by simp [codicilref01_Same.f]
theorem wf_bytes {l : List Int} (h : ∀ x ∈ l, (Lit.int .u8 x).wf = true) : ∀ x ∈ l, 0 ≤ x ∧ x < 256 := fun x hx => by have := h x hx; simp [Lit.wf, IntKind.min, IntKind.max, IntKind.signed, IntKind.bits] at this; omega
end Go.Proofs.Ytkdklcamgcmifaa.Pure
