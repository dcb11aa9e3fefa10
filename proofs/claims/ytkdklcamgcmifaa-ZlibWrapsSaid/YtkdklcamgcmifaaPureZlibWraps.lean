/- Wrap writes just the bytes that the document says (of up to 3,000 bytes). No condition. -/
import Derived.Test.YtkdklcamgcmifaaPZlib
namespace Go.Proofs.Ytkdklcamgcmifaa.Pure
open Go.RowKit Go.Proofs.Ytkdklcamgcmifaa Go.Proofs.YtkdklcamgcmifaaW.PrintWords Go.Proofs.YtkdklcamgcmifaaW.PrintLast Go.Proofs.YtkdklcamgcmifaaW.PrintMore Go.Proofs.Ytkdklcamgcmifaa.PDW
theorem doc_len (l : List Int) (a : Int) (h : l.length ≤ 60000) : (docD l a).1.length ≤ 100000 := by
  have h1 := stored_len l
  have h2 := fixed_len l
  unfold docD
  by_cases c1 : a < 0 ∨ 2 < a
  · rw [if_pos c1]; simp
  · rw [if_neg c1]
    by_cases c2 : a = 0
    · rw [if_pos c2]; show (storedB l).length ≤ _; omega
    · rw [if_neg c2]
      by_cases c3 : a = 2 ∧ (storedB l).length ≤ (fixedB l).length
      · rw [if_pos c3]; show (storedB l).length ≤ _; omega
      · rw [if_neg c3]; show (fixedB l).length ≤ _; omega
theorem ZlibWraps : codicillaw05_ZlibWraps.Pure := by
  intro l a _ _ hlb _
  have hb := wf_bytes hlb
  refine ⟨10 * l.length + 1 + 1, ?_⟩
  unfold codicillaw05_ZlibWraps.f
  rw [show codicillaw05_awake.f = some true from rfl]
  simp only [Option.bind_some, if_true]
  by_cases h : (l.length : Int) > 3000
  · rw [if_pos h]
  · rw [if_neg h, twin_is l (by omega)]
    simp only [Option.bind_some]
    unfold zlib_Wrap.f codicilref05_DocWrap.f
    rw [prog_is l a (by omega) hb, doc_is [] a (10 * l.length + 1) (by simp) (by simp)]
    simp only [Option.bind_some]
    by_cases h0 : a < 0 ∨ 2 < a
    · have e1 : docD l a = ([], 1) := by unfold docD; rw [if_pos h0]
      have e2 : docD [] a = ([], 1) := by unfold docD; rw [if_pos h0]
      rw [e1, e2]
      simp only [show ¬ ((1 : Int) = 0) from by decide, if_false, Option.bind_some]
      rw [same_is]
      simp
    · have r1 := ref_is l a (by omega) hb h0
      have r2 := ref_is [] a (by simp) (by simp) h0
      have hlen := doc_len l a (by omega)
      have e1 := adlProg l hb (by omega) l.length 0 (10 * l.length + 1 + 1) 1 0 (by omega) (by omega) (by omega) (by omega) (by omega) (by omega) (by omega)
      have e2 := adlRef l hb (by omega) l.length 0 (10 * l.length + 1 + 1) 1 0 (by omega) (by omega) (by omega) (by omega) (by omega) (by omega) (by omega)
      simp only [Int.natCast_zero] at e1 e2
      rw [show (1 : Int) % 65521 = 1 from rfl, show (0 : Int) % 65521 = 0 from rfl] at e1
      unfold codicilref05_Wrap.f zlib_Adler.f codicilref05_Adler.f
      rw [r1.2, r2.2, if_pos rfl, if_pos rfl, if_neg (by omega), e1, e2, r1.1]
      try simp only [Option.bind_some]
      repeat first | rw [if_pos (by simp; omega)] | simp only [Option.bind_some]
      rw [same_is]
      simp
end Go.Proofs.Ytkdklcamgcmifaa.Pure
