/- Adler and Crc are the sums that the document says, of any bytes. No condition. -/
import Derived.Test.YtkdklcamgcmifaaPZSx
import Derived.Laws.BitsAllLaws
namespace Go.Proofs.Ytkdklcamgcmifaa.Pure
set_option linter.unusedVariables false
set_option linter.unusedSimpArgs false
open Go.RowKit Go.Proofs.Ytkdklcamgcmifaa Go.Proofs.YtkdklcamgcmifaaW.PrintWords Go.Proofs.YtkdklcamgcmifaaW.PrintLast Go.Proofs.YtkdklcamgcmifaaW.PrintMore Go.Proofs.Ytkdklcamgcmifaa.PZS

theorem wrapId (x : Int) (h0 : -9223372036854775808 ≤ x) (h1 : x ≤ 9223372036854775807) : wrap64 x = x := by
  simp only [wrap64]
  omega
def adl : List Int → Int → Int → Int × Int
  | [], a, b => (a, b)
  | x :: r, a, b => adl r ((a + x) % 65521) ((b + (a + x) % 65521) % 65521)
theorem adl_range : ∀ (l : List Int) (a b : Int), 0 ≤ a → a < 65521 → 0 ≤ b → b < 65521 → 0 ≤ (adl l a b).1 ∧ (adl l a b).1 < 65521 ∧ 0 ≤ (adl l a b).2 ∧ (adl l a b).2 < 65521 := by
  intro l
  induction l with
  | nil => intro a b h0 h1 h2 h3; exact ⟨h0, h1, h2, h3⟩
  | cons x r ih => intro a b h0 h1 h2 h3; exact ih _ _ (by omega) (by omega) (by omega) (by omega)
theorem rd_drop (l : List Int) (i : Nat) (h : i < l.length) : l.drop i = rd l (i : Int) :: l.drop (i + 1) := by
  rw [List.drop_eq_getElem_cons h]
  simp [rd, h]
theorem rd_mem (l : List Int) (i : Nat) (h : i < l.length) : rd l (i : Int) ∈ l := by
  simp [rd, h]
theorem adlRef (l : List Int) (hb : ∀ x ∈ l, 0 ≤ x ∧ x < 256) (hl : l.length ≤ 140737488351232) : ∀ (m i k : Nat) (a b : Int), l.length - i = m → i ≤ l.length → m < k → 0 ≤ a → a < 65521 → 0 ≤ b → b < 65521 →
    codicilref05_Adler.l0 k a b l (l.length : Int) (i : Int) = some ((65536 * (adl (l.drop i) a b).2 + (adl (l.drop i) a b).1)) := by
  intro m
  induction m with
  | zero =>
    intro i k a b hm hi hk h0 h1 h2 h3
    obtain ⟨k, rfl⟩ : ∃ j, k = j + 1 := ⟨k - 1, by omega⟩
    obtain rfl : i = l.length := by omega
    simp only [codicilref05_Adler.l0]
    rw [if_neg (by omega), List.drop_length]
    simp only [adl]
    rw [Int.emod_eq_of_lt (by omega) (by omega)]
  | succ m ih =>
    intro i k a b hm hi hk h0 h1 h2 h3
    obtain ⟨k, rfl⟩ : ∃ j, k = j + 1 := ⟨k - 1, by omega⟩
    have hx := hb _ (rd_mem l i (by omega))
    simp only [codicilref05_Adler.l0]
    rw [if_pos (by omega), if_pos (by omega), if_pos (by omega), rd_drop l i (by omega)]
    simp only [adl]
    generalize rd l (i : Int) = x at hx ⊢
    rw [wrapId _ (by omega) (by omega), show (i : Int) + 1 = ((i + 1 : Nat) : Int) from by omega]
    rw [show (a + x) % 4294967296 % 65521 = (a + x) % 65521 from by omega, show (b + (a + x) % 65521) % 4294967296 % 65521 = (b + (a + x) % 65521) % 65521 from by omega]
    exact ih (i + 1) k _ _ (by omega) (by omega) (by omega) (by omega) (by omega) (by omega) (by omega)
theorem u32_join (b a : Int) (h0 : 0 ≤ b) (h1 : b < 65536) (h2 : 0 ≤ a) (h3 : a < 65536) : Go.bits .or .u32 (b * 65536) a = 65536 * b + a := by
  rw [u32_or _ _ (by omega) (by omega) h2 (by omega)]
  have h := nat_join 16 (b * 65536).toNat a.toNat (by omega) (by omega)
  rw [h]
  omega
theorem adlProg (l : List Int) (hb : ∀ x ∈ l, 0 ≤ x ∧ x < 256) (hl : l.length ≤ 140737488351232) : ∀ (m i k : Nat) (a b : Int), l.length - i = m → i ≤ l.length → m < k → 0 ≤ a → a ≤ 65520 + 255 * ((i % 2000 : Nat) : Int) → 0 ≤ b → b ≤ 65520 + 575520 * ((i % 2000 : Nat) : Int) →
    zlib_Adler.l0 k a b l (l.length : Int) (i : Int) = some ((65536 * (adl (l.drop i) (a % 65521) (b % 65521)).2 + (adl (l.drop i) (a % 65521) (b % 65521)).1)) := by
  intro m
  induction m with
  | zero =>
    intro i k a b hm hi hk h0 h1 h2 h3
    obtain ⟨k, rfl⟩ : ∃ j, k = j + 1 := ⟨k - 1, by omega⟩
    obtain rfl : i = l.length := by omega
    simp only [zlib_Adler.l0]
    rw [if_neg (by omega), List.drop_length]
    simp only [adl]
    rw [Int.tmod_eq_emod_of_nonneg h0, Int.tmod_eq_emod_of_nonneg h2, show b % 65521 % 4294967296 = b % 65521 from by omega, show a % 65521 % 4294967296 = a % 65521 from by omega, show b % 65521 * 65536 % 4294967296 = b % 65521 * 65536 from by omega]
    rw [u32_join _ _ (by omega) (by omega) (by omega) (by omega)]
  | succ m ih =>
    intro i k a b hm hi hk h0 h1 h2 h3
    obtain ⟨k, rfl⟩ : ∃ j, k = j + 1 := ⟨k - 1, by omega⟩
    have hx := hb _ (rd_mem l i (by omega))
    simp only [zlib_Adler.l0]
    rw [if_pos (by omega), if_pos (by omega), if_pos (by omega), rd_drop l i (by omega)]
    simp only [adl]
    generalize rd l (i : Int) = x at hx ⊢
    have hi2 : i % 2000 < 2000 := Nat.mod_lt _ (by decide)
    have e1 : (a % 65521 + x) % 65521 = (a + x) % 65521 := by omega
    have e2 : (b % 65521 + (a + x) % 65521) % 65521 = (b + (a + x)) % 65521 := by omega
    rw [e1, e2, wrapId x (by omega) (by omega), wrapId (a + x) (by omega) (by omega), wrapId (b + (a + x)) (by omega) (by omega), wrapId ((i : Int) + 1) (by omega) (by omega), show (i : Int) + 1 = ((i + 1 : Nat) : Int) from by omega]
    rw [Int.tmod_eq_emod_of_nonneg (show (0 : Int) ≤ i by omega)]
    by_cases h : (i : Int) % 2000 = 1999
    · rw [if_pos h, Int.tmod_eq_emod_of_nonneg (by omega), Int.tmod_eq_emod_of_nonneg (by omega)]
      rw [ih (i + 1) k _ _ (by omega) (by omega) (by omega) (by omega) (by omega) (by omega) (by omega)]
      rw [Int.emod_emod_of_dvd _ (Int.dvd_refl _), Int.emod_emod_of_dvd _ (Int.dvd_refl _)]
    · rw [if_neg h]
      have e3 : (i + 1) % 2000 = i % 2000 + 1 := by omega
      rw [ih (i + 1) k _ _ (by omega) (by omega) (by omega) (by omega) (by rw [e3]; omega) (by omega) (by rw [e3]; omega)]

/-- One round of the polynomial. -/
def crcStep (c : Int) : Int := if c % 2 = 1 then Go.bits .xor .u32 (c / 2) 3988292384 else c / 2
theorem xor_range (a b : Int) (h0 : 0 ≤ a) (h1 : a < 4294967296) (h2 : 0 ≤ b) (h3 : b < 4294967296) : 0 ≤ Go.bits .xor .u32 a b ∧ Go.bits .xor .u32 a b < 4294967296 := by
  rw [u32_xor a b h0 h1 h2 h3]
  have := Nat.xor_lt_two_pow (x := a.toNat) (y := b.toNat) (n := 32) (by omega) (by omega)
  omega
theorem crcStep_range (c : Int) (h0 : 0 ≤ c) (h1 : c < 4294967296) : 0 ≤ crcStep c ∧ crcStep c < 4294967296 := by
  unfold crcStep
  split
  · exact xor_range _ _ (by omega) (by omega) (by omega) (by omega)
  · omega
theorem crcStep_prog (c : Int) (h0 : 0 ≤ c) (h1 : c < 4294967296) : Go.bits .xor .u32 (c / 2) (Go.bits .and .u32 3988292384 ((-(Go.bits .and .u32 c 1)) % 4294967296)) = crcStep c := by
  have ha : Go.bits .and .u32 c 1 = c % 2 := by
    rw [u32_and c 1 h0 h1 (by omega) (by omega), show (1 : Int).toNat = 1 from rfl, nat_mask1]
    omega
  rw [ha]
  unfold crcStep
  rcases (show c % 2 = 0 ∨ c % 2 = 1 by omega) with h | h
  · rw [h, if_neg (by decide), show (-(0 : Int)) % 4294967296 = 0 from rfl, show Go.bits .and .u32 3988292384 0 = 0 from by decide +kernel]
    rw [u32_xor _ _ (by omega) (by omega) (by omega) (by omega)]
    simp
    omega
  · rw [h, if_pos rfl, show (-(1 : Int)) % 4294967296 = 4294967295 from rfl, show Go.bits .and .u32 3988292384 4294967295 = 3988292384 from by decide +kernel]
def crc8 (c : Int) : Int := crcStep (crcStep (crcStep (crcStep (crcStep (crcStep (crcStep (crcStep c)))))))
theorem crc8_range (c : Int) (h0 : 0 ≤ c) (h1 : c < 4294967296) : 0 ≤ crc8 c ∧ crc8 c < 4294967296 := by
  have r1 := crcStep_range c h0 h1
  have r2 := crcStep_range _ r1.1 r1.2
  have r3 := crcStep_range _ r2.1 r2.2
  have r4 := crcStep_range _ r3.1 r3.2
  have r5 := crcStep_range _ r4.1 r4.2
  have r6 := crcStep_range _ r5.1 r5.2
  have r7 := crcStep_range _ r6.1 r6.2
  exact crcStep_range _ r7.1 r7.2
theorem prog_round (k : Nat) (c : Int) (l : List Int) (n i j : Int) (h0 : 0 ≤ c) (h1 : c < 4294967296) (hj : j < 8) (hj0 : 0 ≤ j) : zlib_Crc.l1 (k + 1) c l n i j = zlib_Crc.l1 k (crcStep c) l n i (j + 1) := by
  simp only [zlib_Crc.l1]
  rw [if_pos hj, crcStep_prog c h0 h1, wrapId _ (by omega) (by omega)]
theorem prog_eight (k : Nat) (c : Int) (l : List Int) (n i : Int) (h0 : 0 ≤ c) (h1 : c < 4294967296) : zlib_Crc.l1 (k + 9) c l n i 0 = zlib_Crc.l0 k (crc8 c) l n (wrap64 (i + 1)) := by
  have r1 := crcStep_range c h0 h1
  have r2 := crcStep_range _ r1.1 r1.2
  have r3 := crcStep_range _ r2.1 r2.2
  have r4 := crcStep_range _ r3.1 r3.2
  have r5 := crcStep_range _ r4.1 r4.2
  have r6 := crcStep_range _ r5.1 r5.2
  have r7 := crcStep_range _ r6.1 r6.2
  rw [prog_round _ _ _ _ _ _ h0 h1 (by omega) (by omega), prog_round _ _ _ _ _ _ r1.1 r1.2 (by omega) (by omega), prog_round _ _ _ _ _ _ r2.1 r2.2 (by omega) (by omega), prog_round _ _ _ _ _ _ r3.1 r3.2 (by omega) (by omega), prog_round _ _ _ _ _ _ r4.1 r4.2 (by omega) (by omega), prog_round _ _ _ _ _ _ r5.1 r5.2 (by omega) (by omega), prog_round _ _ _ _ _ _ r6.1 r6.2 (by omega) (by omega), prog_round _ _ _ _ _ _ r7.1 r7.2 (by omega) (by omega)]
  simp only [zlib_Crc.l1]
  rw [if_neg (by omega)]
  rfl
theorem ref_round (k : Nat) (c : Int) (l : List Int) (n i j : Int) (h0 : 0 ≤ c) (hj : j < 8) (hj0 : 0 ≤ j) : codicilref05_Crc.l1 (k + 1) c j l n i = codicilref05_Crc.l1 k (crcStep c) (j + 1) l n i := by
  simp only [codicilref05_Crc.l1]
  rw [if_pos hj, Int.tmod_eq_emod_of_nonneg h0, wrapId _ (by omega) (by omega)]
  unfold crcStep
  split <;> rfl
theorem ref_eight (k : Nat) (c : Int) (l : List Int) (n i : Int) (h0 : 0 ≤ c) (h1 : c < 4294967296) : codicilref05_Crc.l1 (k + 9) c 0 l n i = codicilref05_Crc.l0 k (crc8 c) l n (wrap64 (i + 1)) := by
  have r1 := crcStep_range c h0 h1
  have r2 := crcStep_range _ r1.1 r1.2
  have r3 := crcStep_range _ r2.1 r2.2
  have r4 := crcStep_range _ r3.1 r3.2
  have r5 := crcStep_range _ r4.1 r4.2
  have r6 := crcStep_range _ r5.1 r5.2
  have r7 := crcStep_range _ r6.1 r6.2
  rw [ref_round _ _ _ _ _ _ h0 (by omega) (by omega), ref_round _ _ _ _ _ _ r1.1 (by omega) (by omega), ref_round _ _ _ _ _ _ r2.1 (by omega) (by omega), ref_round _ _ _ _ _ _ r3.1 (by omega) (by omega), ref_round _ _ _ _ _ _ r4.1 (by omega) (by omega), ref_round _ _ _ _ _ _ r5.1 (by omega) (by omega), ref_round _ _ _ _ _ _ r6.1 (by omega) (by omega), ref_round _ _ _ _ _ _ r7.1 (by omega) (by omega)]
  simp only [codicilref05_Crc.l1]
  rw [if_neg (by omega)]
  rfl
def crcV : List Int → Int → Int
  | [], c => Go.bits .xor .u32 4294967295 c
  | x :: r, c => crcV r (crc8 (Go.bits .xor .u32 c x))
theorem crcBoth (l : List Int) (hb : ∀ x ∈ l, 0 ≤ x ∧ x < 256) (hl : l.length ≤ 140737488351232) : ∀ (m i k : Nat) (c : Int), l.length - i = m → i ≤ l.length → 10 * m < k → 0 ≤ c → c < 4294967296 →
    zlib_Crc.l0 k c l (l.length : Int) (i : Int) = some (crcV (l.drop i) c) ∧ codicilref05_Crc.l0 k c l (l.length : Int) (i : Int) = some (crcV (l.drop i) c) := by
  intro m
  induction m with
  | zero =>
    intro i k c hm hi hk h0 h1
    obtain ⟨k, rfl⟩ : ∃ j, k = j + 1 := ⟨k - 1, by omega⟩
    obtain rfl : i = l.length := by omega
    simp only [zlib_Crc.l0, codicilref05_Crc.l0]
    rw [if_neg (by omega), if_neg (by omega), List.drop_length]
    exact ⟨rfl, rfl⟩
  | succ m ih =>
    intro i k c hm hi hk h0 h1
    obtain ⟨k, rfl⟩ : ∃ j, k = (j + 9) + 1 := ⟨k - 10, by omega⟩
    have hx := hb _ (rd_mem l i (by omega))
    simp only [zlib_Crc.l0, codicilref05_Crc.l0]
    rw [if_pos (by omega), if_pos (by omega), if_pos (by omega), if_pos (by omega), if_pos (by omega), if_pos (by omega), rd_drop l i (by omega)]
    simp only [crcV]
    generalize rd l (i : Int) = x at hx ⊢
    rw [show x % 4294967296 = x from by omega]
    have hr := xor_range c x h0 h1 hx.1 (by omega)
    rw [prog_eight k _ _ _ _ hr.1 hr.2, ref_eight k _ _ _ _ hr.1 hr.2, wrapId _ (by omega) (by omega), show (i : Int) + 1 = ((i + 1 : Nat) : Int) from by omega]
    have h8 := crc8_range _ hr.1 hr.2
    exact ih (i + 1) k _ (by omega) (by omega) (by omega) h8.1 h8.2
theorem ZlibSums : codicillaw05_ZlibSums.Pure := by
  intro l _ hl hlb
  have hb : ∀ x ∈ l, 0 ≤ x ∧ x < 256 := fun x hx => by have := hlb x hx; simp [Lit.wf, IntKind.min, IntKind.max, IntKind.signed, IntKind.bits] at this; omega
  refine ⟨10 * l.length + 1, ?_⟩
  have e1 := adlProg l hb (by omega) l.length 0 (10 * l.length + 1) 1 0 (by omega) (by omega) (by omega) (by omega) (by omega) (by omega) (by omega)
  have e2 := adlRef l hb (by omega) l.length 0 (10 * l.length + 1) 1 0 (by omega) (by omega) (by omega) (by omega) (by omega) (by omega) (by omega)
  have e3 := crcBoth l hb (by omega) l.length 0 (10 * l.length + 1) 4294967295 (by omega) (by omega) (by omega) (by omega) (by omega)
  have ht : codicilref01_Twin.f l = some l := by
    unfold codicilref01_Twin.f
    rw [if_pos (by simp; omega)]
    rfl
  unfold codicillaw05_ZlibSums.f
  rw [show codicillaw05_awake.f = some true from rfl, ht]
  simp only [Option.bind_some, if_true]
  unfold zlib_Adler.f codicilref05_Adler.f zlib_Crc.f codicilref05_Crc.f
  simp only [Int.natCast_zero, Int.ofNat_zero] at e1 e2 e3
  rw [e1, e2]
  simp only [Option.bind_some]
  rw [show (1 : Int) % 65521 = 1 from rfl, show (0 : Int) % 65521 = 0 from rfl, if_pos rfl, e3.1, e3.2]
  simp
end Go.Proofs.Ytkdklcamgcmifaa.Pure
