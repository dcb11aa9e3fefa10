/- zlib.Wrap and the document's Wrap, as ZlibMemory uses them. -/
import Derived.Test.YtkdklcamgcmifaaDoorHMA
namespace Go.Proofs.YtkdklcamgcmifaaDoor
set_option linter.unusedVariables false
set_option linter.unusedSimpArgs false
open Go.RowKit Go.Proofs.YtkdklcamgcmifaaDoorW.PrintWords Go.Proofs.YtkdklcamgcmifaaDoorW.PrintMore Go.Proofs.YtkdklcamgcmifaaDoor.PM
theorem adl_f (l : List Int) (hb : ∀ x ∈ l, 0 ≤ x ∧ x < 256) (hl : l.length ≤ 10000000) : zlib_Adler.f (l.length + 1) l = some (A32 l) := by
  have e1 := adlProg l hb (by omega) l.length 0 (l.length + 1) 1 0 (by omega) (by omega) (by omega) (by omega) (by omega) (by omega) (by omega)
  unfold zlib_Adler.f
  simpa [A32] using e1
theorem adlRef (l : List Int) (hb : ∀ x ∈ l, 0 ≤ x ∧ x < 256) (hl : l.length ≤ 140737488351232) : ∀ (m i k : Nat) (a b : Int), l.length - i = m → i ≤ l.length → m < k → 0 ≤ a → a < 65521 → 0 ≤ b → b < 65521 →
    codicilref05_Adler.l0 k a b l (l.length : Int) (i : Int) = some ((65536 * (adl (l.drop i) a b).2 + (adl (l.drop i) a b).1)) := by
  intro m
  induction m with
  | zero =>
    intro i k a b hm hi hk h0 h1 h2 h3
    obtain ⟨k, rfl⟩ : ∃ j, k = j + 1 := ⟨k - 1, by omega⟩
    obtain rfl : i = l.length := by omega
    simp only [codicilref05_Adler.l0]
    rw [if_neg (by omega), List.drop_length]
    simp only [adl]
    rw [Int.emod_eq_of_lt (by omega) (by omega)]
  | succ m ih =>
    intro i k a b hm hi hk h0 h1 h2 h3
    obtain ⟨k, rfl⟩ : ∃ j, k = j + 1 := ⟨k - 1, by omega⟩
    have hx := hb _ (rd_mem l i (by omega))
    simp only [codicilref05_Adler.l0]
    rw [if_pos (by omega), if_pos (by omega), if_pos (by omega), rd_drop l i (by omega)]
    simp only [adl]
    generalize rd l (i : Int) = x at hx ⊢
    rw [wrapId _ (by omega) (by omega), show (i : Int) + 1 = ((i + 1 : Nat) : Int) from by omega]
    rw [show (a + x) % 4294967296 % 65521 = (a + x) % 65521 from by omega, show (b + (a + x) % 65521) % 4294967296 % 65521 = (b + (a + x) % 65521) % 65521 from by omega]
    exact ih (i + 1) k _ _ (by omega) (by omega) (by omega) (by omega) (by omega) (by omega) (by omega)
theorem adlR_f (l : List Int) (hb : ∀ x ∈ l, 0 ≤ x ∧ x < 256) (hl : l.length ≤ 10000000) : codicilref05_Adler.f (l.length + 1) l = some (A32 l) := by
  have e1 := adlRef l hb (by omega) l.length 0 (l.length + 1) 1 0 (by omega) (by omega) (by omega) (by omega) (by omega) (by omega) (by omega)
  unfold codicilref05_Adler.f
  simpa [A32] using e1
theorem adlerR_calls (w : World) (A : Option Addr) (n c : Nat) (l : List Int) (hn : l.length = n) (hr : ReadsInt w .u8 A n l) (hc : n ≤ c) (hb : ∀ x ∈ l, 0 ≤ x ∧ x < 256) (hl : n ≤ 10000000) :
    Calls Tryd.prog 39 #[.slice A n c] w fun e w' => e = .returned (.int .u32 (A32 l)) ∧ ∃ n, w' = w.drewN n := by
  subst hn
  refine (codicilref05_Adler.calls (l.length + 1) A c l (A32 l) w (toC hr) hc (adlR_f l hb hl)).mono ?_
  rintro e w' ⟨rfl, hd⟩
  exact ⟨rfl, hd.out⟩
/-- What Wrap answers, of what is right. -/
def wrapL (l : List Int) (way : Int) : List Int := [120, 1] ++ (docD l way).1 ++ [(A32 l / 16777216) % 256, (A32 l / 65536) % 256, (A32 l / 256) % 256, A32 l % 256]
theorem lenN_small (n : Nat) (h : n < 11) : lenN n ≤ 9 := by
  have hs := symN_le (lenS n)
  unfold lenN lenE
  rw [if_neg (by omega), if_pos h]
  omega
theorem fixT_bound (l : List Int) : ∀ (m i T N : Nat), l.length - i = m → (fixT l i T N).2 ≤ N + 9 * m := by
  intro m
  induction m using Nat.strongRecOn with
  | _ m ih =>
    intro i T N hm
    by_cases h : i < l.length
    · by_cases hn : (mat l i).1 = 0
      · rw [fixT_lit h hn]
        have h1 := ih (m - 1) (by omega) (i + 1) (T + symV (l.getD i 0).toNat * 2 ^ N) (N + symN (l.getD i 0).toNat) (by omega)
        have h2 := symN_le (l.getD i 0).toNat
        omega
      · rw [fixT_mat h hn]
        have hb := mat_bounds l i
        generalize (mat l i).1 = n at *
        generalize (mat l i).2 = d at *
        have h1 := ih (m - n) (by omega) (i + n) (T + PM.lenV n * 2 ^ N + disV d * 2 ^ (N + lenN n)) (N + lenN n + disN d) (by omega)
        have h2 := lenE_le n (by omega) (by omega)
        have h3 := disE_le d (by omega) (by omega)
        rcases Nat.lt_or_ge n 11 with e | e
        · have h4 := lenN_small n e
          omega
        · omega
    · rw [fixT_end (by omega)]
      show N ≤ _
      omega
theorem fixed_len (l : List Int) : (fixedB l).length ≤ (9 * l.length + 17) / 8 := by
  unfold fixedB
  rw [leB_length]
  have h := fixT_bound l l.length 0 3 3 (by omega)
  have h2 : symN 256 = 7 := by decide
  rw [h2]
  omega
theorem doc_lenS (l : List Int) (a : Int) (h : l.length ≤ 60000) : (docD l a).1.length ≤ 100000 := by
  have h1 := stored_len l
  have h2 := fixed_len l
  unfold docD
  by_cases c1 : a < 0 ∨ 2 < a
  · rw [if_pos c1]; simp
  · rw [if_neg c1]
    by_cases c2 : a = 0
    · rw [if_pos c2]; show (storedB l).length ≤ _; omega
    · rw [if_neg c2]
      by_cases c3 : a = 2 ∧ (storedB l).length ≤ (fixedB l).length
      · rw [if_pos c3]; show (storedB l).length ≤ _; omega
      · rw [if_neg c3]; show (fixedB l).length ≤ _; omega
theorem ref_two (l : List Int) (hl : l.length ≤ 60000) (hb : ∀ x ∈ l, 0 ≤ x ∧ x < 256) : codicilref04_Deflate.f l 2 = some (docD l 2).1 ∧ (docD l 2).2 = 0 := by
  have hF : codicilref04_Fixed.f l = some (fixedB l) := by unfold codicilref04_Fixed.f; rw [if_pos ⟨by omega, hb⟩]
  have hS : codicilref04_Stored.f l = some (storedB l) := by unfold codicilref04_Stored.f; rw [if_pos (by omega)]
  have e : docD l 2 = if (storedB l).length ≤ (fixedB l).length then (storedB l, 0) else (fixedB l, 0) := by
    unfold docD
    by_cases h5 : (storedB l).length ≤ (fixedB l).length
    · simp [h5]
    · simp [h5]
  unfold codicilref04_Deflate.f
  rw [hF, hS, e]
  by_cases h5 : (storedB l).length ≤ (fixedB l).length
  · simp [h5]
  · simp [h5]
theorem wrap_two (l : List Int) (hl : l.length ≤ 60000) (hb : ∀ x ∈ l, 0 ≤ x ∧ x < 256) : zlib_Wrap.f (l.length + 1) l 2 = some (wrapL l 2, 0) := by
  have hd : deflate_Deflate.f l 2 = some (docD l 2) := by
    unfold deflate_Deflate.f
    rw [if_pos ⟨hl, hb⟩]
  have hlen := doc_lenS l 2 hl
  unfold zlib_Wrap.f
  rw [hd]
  simp only [Option.bind_some]
  rw [if_pos (ref_two l hl hb).2, adl_f l hb (by omega)]
  simp only [Option.bind_some]
  rw [if_pos (by simp; omega), if_pos (by simp; omega)]
  simp [wrapL]
theorem wrapR_two (l : List Int) (hl : l.length ≤ 60000) (hb : ∀ x ∈ l, 0 ≤ x ∧ x < 256) : codicilref05_Wrap.f (l.length + 1) l 2 = some (wrapL l 2) := by
  have hlen := doc_lenS l 2 hl
  unfold codicilref05_Wrap.f
  rw [(ref_two l hl hb).1, adlR_f l hb (by omega)]
  simp only [Option.bind_some]
  rw [if_pos (by simp; omega), if_pos (by simp; omega)]
  simp [wrapL]
theorem wrapM_calls (w : World) (A : Option Addr) (n c : Nat) (l : List Int) (hn : l.length = n) (hr : ReadsInt w .u8 A n l) (hb : ∀ x ∈ l, 0 ≤ x ∧ x < 256) (hc : n ≤ c) (hl : n ≤ 60000) (r : List Int) (he : wrapL l 2 = r) :
    Calls Tryd.prog 22 #[.slice A n c, .int .i64 2] w fun e w' => ∃ A' c', e = .returned (.tuple #[.slice A' r.length c', .int .i64 0]) ∧ Hid (Bs 5 w' w.heap.size (.slice A' r.length c') r) ∧ Hid (Below w.heap.size w w') := by
  subst hn
  have h := wrap_two l hl hb
  rw [he] at h
  refine (zlib_Wrap.calls (l.length + 1) A c l 2 r 0 w (toC hr) hc h).mono ?_
  rintro e w1 ⟨v, rfl, hv, hb⟩
  obtain ⟨A', c', rfl, h1, h2, h3⟩ := r_open hv
  exact ⟨A', c', rfl, Lib.hid h3, Lib.hid hb⟩
theorem wrapR_calls (w : World) (A : Option Addr) (n c : Nat) (l : List Int) (hn : l.length = n) (hr : ReadsInt w .u8 A n l) (hb : ∀ x ∈ l, 0 ≤ x ∧ x < 256) (hc : n ≤ c) (hl : n ≤ 60000) (r : List Int) (he : wrapL l 2 = r) :
    Calls Tryd.prog 27 #[.slice A n c, .int .i64 2] w fun e w' => ∃ A' c', e = .returned (.slice A' r.length c') ∧ Hid (Bs 5 w' w.heap.size (.slice A' r.length c') r) ∧ Hid (Below w.heap.size w w') := by
  subst hn
  have h := wrapR_two l hl hb
  rw [he] at h
  refine (codicilref05_Wrap.calls (l.length + 1) A c l 2 r w (toC hr) hc h).mono ?_
  rintro e w1 ⟨v, rfl, hv, hb⟩
  obtain ⟨A', c', rfl, h1, h2, h3⟩ := r_open hv
  exact ⟨A', c', rfl, Lib.hid h3, Lib.hid hb⟩
end Go.Proofs.YtkdklcamgcmifaaDoor
