/- Adler, by the program and by the document. -/
import Derived.Test.YtkdklcamgcmifaaPDW
import Derived.Test.YtkdklcamgcmifaaPDWx6
import Derived.Laws.BitsAllLaws
namespace Go.Proofs.Ytkdklcamgcmifaa.Pure
set_option linter.unusedVariables false
set_option linter.unusedSimpArgs false
open Go.RowKit Go.Proofs.Ytkdklcamgcmifaa Go.Proofs.YtkdklcamgcmifaaW.PrintWords Go.Proofs.YtkdklcamgcmifaaW.PrintLast Go.Proofs.YtkdklcamgcmifaaW.PrintMore Go.Proofs.Ytkdklcamgcmifaa.PDW

theorem wrapId (x : Int) (h0 : -9223372036854775808 ≤ x) (h1 : x ≤ 9223372036854775807) : wrap64 x = x := by
  simp only [wrap64]
  omega
def adl : List Int → Int → Int → Int × Int
  | [], a, b => (a, b)
  | x :: r, a, b => adl r ((a + x) % 65521) ((b + (a + x) % 65521) % 65521)
theorem adl_range : ∀ (l : List Int) (a b : Int), 0 ≤ a → a < 65521 → 0 ≤ b → b < 65521 → 0 ≤ (adl l a b).1 ∧ (adl l a b).1 < 65521 ∧ 0 ≤ (adl l a b).2 ∧ (adl l a b).2 < 65521 := by
  intro l
  induction l with
  | nil => intro a b h0 h1 h2 h3; exact ⟨h0, h1, h2, h3⟩
  | cons x r ih => intro a b h0 h1 h2 h3; exact ih _ _ (by omega) (by omega) (by omega) (by omega)
theorem rd_drop (l : List Int) (i : Nat) (h : i < l.length) : l.drop i = rd l (i : Int) :: l.drop (i + 1) := by
  rw [List.drop_eq_getElem_cons h]
  simp [rd, h]
theorem rd_mem (l : List Int) (i : Nat) (h : i < l.length) : rd l (i : Int) ∈ l := by
  simp [rd, h]
theorem adlRef (l : List Int) (hb : ∀ x ∈ l, 0 ≤ x ∧ x < 256) (hl : l.length ≤ 140737488351232) : ∀ (m i k : Nat) (a b : Int), l.length - i = m → i ≤ l.length → m < k → 0 ≤ a → a < 65521 → 0 ≤ b → b < 65521 →
    codicilref05_Adler.l0 k a b l (l.length : Int) (i : Int) = some ((65536 * (adl (l.drop i) a b).2 + (adl (l.drop i) a b).1)) := by
  intro m
  induction m with
  | zero =>
    intro i k a b hm hi hk h0 h1 h2 h3
    obtain ⟨k, rfl⟩ : ∃ j, k = j + 1 := ⟨k - 1, by omega⟩
    obtain rfl : i = l.length := by omega
    simp only [codicilref05_Adler.l0]
    rw [if_neg (by omega), List.drop_length]
    simp only [adl]
    rw [Int.emod_eq_of_lt (by omega) (by omega)]
  | succ m ih =>
    intro i k a b hm hi hk h0 h1 h2 h3
    obtain ⟨k, rfl⟩ : ∃ j, k = j + 1 := ⟨k - 1, by omega⟩
    have hx := hb _ (rd_mem l i (by omega))
    simp only [codicilref05_Adler.l0]
    rw [if_pos (by omega), if_pos (by omega), if_pos (by omega), rd_drop l i (by omega)]
    simp only [adl]
    generalize rd l (i : Int) = x at hx ⊢
    rw [wrapId _ (by omega) (by omega), show (i : Int) + 1 = ((i + 1 : Nat) : Int) from by omega]
    rw [show (a + x) % 4294967296 % 65521 = (a + x) % 65521 from by omega, show (b + (a + x) % 65521) % 4294967296 % 65521 = (b + (a + x) % 65521) % 65521 from by omega]
    exact ih (i + 1) k _ _ (by omega) (by omega) (by omega) (by omega) (by omega) (by omega) (by omega)
theorem u32_join (b a : Int) (h0 : 0 ≤ b) (h1 : b < 65536) (h2 : 0 ≤ a) (h3 : a < 65536) : Go.bits .or .u32 (b * 65536) a = 65536 * b + a := by
  rw [u32_or _ _ (by omega) (by omega) h2 (by omega)]
  have h := nat_join 16 (b * 65536).toNat a.toNat (by omega) (by omega)
  rw [h]
  omega
theorem adlProg (l : List Int) (hb : ∀ x ∈ l, 0 ≤ x ∧ x < 256) (hl : l.length ≤ 140737488351232) : ∀ (m i k : Nat) (a b : Int), l.length - i = m → i ≤ l.length → m < k → 0 ≤ a → a ≤ 65520 + 255 * ((i % 2000 : Nat) : Int) → 0 ≤ b → b ≤ 65520 + 575520 * ((i % 2000 : Nat) : Int) →
    zlib_Adler.l0 k a b l (l.length : Int) (i : Int) = some ((65536 * (adl (l.drop i) (a % 65521) (b % 65521)).2 + (adl (l.drop i) (a % 65521) (b % 65521)).1)) := by
  intro m
  induction m with
  | zero =>
    intro i k a b hm hi hk h0 h1 h2 h3
    obtain ⟨k, rfl⟩ : ∃ j, k = j + 1 := ⟨k - 1, by omega⟩
    obtain rfl : i = l.length := by omega
    simp only [zlib_Adler.l0]
    rw [if_neg (by omega), List.drop_length]
    simp only [adl]
    rw [Int.tmod_eq_emod_of_nonneg h0, Int.tmod_eq_emod_of_nonneg h2, show b % 65521 % 4294967296 = b % 65521 from by omega, show a % 65521 % 4294967296 = a % 65521 from by omega, show b % 65521 * 65536 % 4294967296 = b % 65521 * 65536 from by omega]
    rw [u32_join _ _ (by omega) (by omega) (by omega) (by omega)]
  | succ m ih =>
    intro i k a b hm hi hk h0 h1 h2 h3
    obtain ⟨k, rfl⟩ : ∃ j, k = j + 1 := ⟨k - 1, by omega⟩
    have hx := hb _ (rd_mem l i (by omega))
    simp only [zlib_Adler.l0]
    rw [if_pos (by omega), if_pos (by omega), if_pos (by omega), rd_drop l i (by omega)]
    simp only [adl]
    generalize rd l (i : Int) = x at hx ⊢
    have hi2 : i % 2000 < 2000 := Nat.mod_lt _ (by decide)
    have e1 : (a % 65521 + x) % 65521 = (a + x) % 65521 := by omega
    have e2 : (b % 65521 + (a + x) % 65521) % 65521 = (b + (a + x)) % 65521 := by omega
    rw [e1, e2, wrapId x (by omega) (by omega), wrapId (a + x) (by omega) (by omega), wrapId (b + (a + x)) (by omega) (by omega), wrapId ((i : Int) + 1) (by omega) (by omega), show (i : Int) + 1 = ((i + 1 : Nat) : Int) from by omega]
    rw [Int.tmod_eq_emod_of_nonneg (show (0 : Int) ≤ i by omega)]
    by_cases h : (i : Int) % 2000 = 1999
    · rw [if_pos h, Int.tmod_eq_emod_of_nonneg (by omega), Int.tmod_eq_emod_of_nonneg (by omega)]
      rw [ih (i + 1) k _ _ (by omega) (by omega) (by omega) (by omega) (by omega) (by omega) (by omega)]
      rw [Int.emod_emod_of_dvd _ (Int.dvd_refl _), Int.emod_emod_of_dvd _ (Int.dvd_refl _)]
    · rw [if_neg h]
      have e3 : (i + 1) % 2000 = i % 2000 + 1 := by omega
      rw [ih (i + 1) k _ _ (by omega) (by omega) (by omega) (by omega) (by rw [e3]; omega) (by omega) (by rw [e3]; omega)]

end Go.Proofs.Ytkdklcamgcmifaa.Pure
