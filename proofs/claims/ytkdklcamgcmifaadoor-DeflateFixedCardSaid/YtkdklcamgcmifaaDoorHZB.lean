/- zlib.Wrap's and Unwrap's contracts, as the laws use them. -/
import Derived.Test.YtkdklcamgcmifaaDoorHZA
import Derived.Test.YtkdklcamgcmifaaDoorHFixP
namespace Go.Proofs.YtkdklcamgcmifaaDoor
set_option linter.unusedVariables false
set_option linter.unusedSimpArgs false
open Go.RowKit Go.Proofs.YtkdklcamgcmifaaDoorW.PrintWords Go.Proofs.YtkdklcamgcmifaaDoorW.PrintMore Go.Proofs.YtkdklcamgcmifaaDoor.PY
theorem unwrap_any (w : World) (A : Option Addr) (n c : Nat) (l : List Int) (m : Int) (r : List Int × Int × Int) (hn : l.length = n) (hr : ReadsInt w .u8 A n l) (hb : ∀ x ∈ l, 0 ≤ x ∧ x < 256) (hc : n ≤ c) (hl : n ≤ 1000000) (ho : Ord w) (he : unwF l m = r) :
    Calls Tryd.prog 23 #[.slice A n c, .int .i64 m] w fun ee w' =>
      ∃ A' c', ee = .returned (.tuple #[.slice A' r.1.length c', .int .i64 r.2.1, .int .i64 r.2.2]) ∧ Hid (Bs 5 w' w.heap.size (.slice A' r.1.length c') r.1) ∧ Hid (Below w.heap.size w w') := by
  subst hn
  refine (unwrap_calls w A c l m hr hb hc hl ho).mono ?_
  rintro ee w2 ⟨v, rfl, hv, hb2⟩
  rw [he] at hv ⊢
  obtain ⟨A', c', rfl⟩ := own_slice hv.out
  exact ⟨A', c', rfl, hv, hb2⟩
theorem unwrap_lit (w : World) (l : List Int) (m : Int) (r : List Int × Int × Int) (ho : Ord w) (hb : ∀ x ∈ l, 0 ≤ x ∧ x < 256) (hl : l.length ≤ 1000) (hr : unwF l m = r) :
    Calls Tryd.prog 23 #[.slice (some ⟨w.heap.size, 0, none⟩) l.length l.length, .int .i64 m] (w.alloc (.cells (nums .u8 l).toArray 5)) fun ee w' =>
      ∃ A c, ee = .returned (.tuple #[.slice A r.1.length c, .int .i64 r.2.1, .int .i64 r.2.2]) ∧ Hid (Below w.heap.size w w') := by
  have hb1 := below_alloc (Below.refl w.heap.size w) (.cells (nums .u8 l).toArray 5)
  refine (unwrap_any _ _ _ _ l m r rfl (lit_reads w l hl) hb (Nat.le_refl _) (by omega) (ho.below hb1) hr).mono ?_
  rintro ee w2 ⟨A, c, rfl, hv, hb2⟩
  exact ⟨A, c, rfl, Lib.hid (below_then hb1 hb1.size hb2.out)⟩
theorem adl_f (l : List Int) (hb : ∀ x ∈ l, 0 ≤ x ∧ x < 256) (hl : l.length ≤ 10000000) : zlib_Adler.f (l.length + 1) l = some (A32 l) := by
  have e1 := adlProg l hb (by omega) l.length 0 (l.length + 1) 1 0 (by omega) (by omega) (by omega) (by omega) (by omega) (by omega) (by omega)
  unfold zlib_Adler.f
  simpa [A32] using e1
/-- What Wrap answers, of what is right. -/
def wrapL (l : List Int) (way : Int) : List Int := [120, 1] ++ (docD l way).1 ++ [(A32 l / 16777216) % 256, (A32 l / 65536) % 256, (A32 l / 256) % 256, A32 l % 256]
theorem lenN_small (n : Nat) (h : n < 11) : lenN n ≤ 9 := by
  have hs := symN_le (lenS n)
  unfold lenN lenE
  rw [if_neg (by omega), if_pos h]
  omega
theorem fixT_bound (l : List Int) : ∀ (m i T N : Nat), l.length - i = m → (fixT l i T N).2 ≤ N + 9 * m := by
  intro m
  induction m using Nat.strongRecOn with
  | _ m ih =>
    intro i T N hm
    by_cases h : i < l.length
    · by_cases hn : (mat l i).1 = 0
      · rw [fixT_lit h hn]
        have h1 := ih (m - 1) (by omega) (i + 1) (T + symV (l.getD i 0).toNat * 2 ^ N) (N + symN (l.getD i 0).toNat) (by omega)
        have h2 := symN_le (l.getD i 0).toNat
        omega
      · rw [fixT_mat h hn]
        have hb := mat_bounds l i
        generalize (mat l i).1 = n at *
        generalize (mat l i).2 = d at *
        have h1 := ih (m - n) (by omega) (i + n) (T + PY.lenV n * 2 ^ N + disV d * 2 ^ (N + lenN n)) (N + lenN n + disN d) (by omega)
        have h2 := lenE_le n (by omega) (by omega)
        have h3 := disE_le d (by omega) (by omega)
        rcases Nat.lt_or_ge n 11 with e | e
        · have h4 := lenN_small n e
          omega
        · omega
    · rw [fixT_end (by omega)]
      show N ≤ _
      omega
theorem fixed_len (l : List Int) : (fixedB l).length ≤ (9 * l.length + 17) / 8 := by
  unfold fixedB
  rw [leB_length]
  have h := fixT_bound l l.length 0 3 3 (by omega)
  have h2 : symN 256 = 7 := by decide
  rw [h2]
  omega
theorem doc_lenZ (l : List Int) (a : Int) (h : l.length ≤ 60000) : (docD l a).1.length ≤ 1000000 := by
  have h1 := stored_len l
  have h2 := fixed_len l
  unfold docD
  by_cases c1 : a < 0 ∨ 2 < a
  · rw [if_pos c1]; simp
  · rw [if_neg c1]
    by_cases c2 : a = 0
    · rw [if_pos c2]; show (storedB l).length ≤ _; omega
    · rw [if_neg c2]
      by_cases c3 : a = 2 ∧ (storedB l).length ≤ (fixedB l).length
      · rw [if_pos c3]; show (storedB l).length ≤ _; omega
      · rw [if_neg c3]; show (fixedB l).length ≤ _; omega
theorem wrap_f (l : List Int) (way : Int) (hl : l.length ≤ 60000) (hb : ∀ x ∈ l, 0 ≤ x ∧ x < 256) : zlib_Wrap.f (l.length + 1) l way = some (if way < 0 ∨ 2 < way then ([], 1) else (wrapL l way, 0)) := by
  have hd : deflate_Deflate.f l way = some (docD l way) := by
    unfold deflate_Deflate.f
    rw [if_pos ⟨hl, hb⟩]
  have hlen := doc_lenZ l way hl
  unfold zlib_Wrap.f
  rw [hd]
  simp only [Option.bind_some]
  by_cases h0 : way < 0 ∨ 2 < way
  · rw [if_pos h0]
    have e1 : docD l way = ([], 1) := by unfold docD; rw [if_pos h0]
    rw [e1]
    simp
  · rw [if_neg h0]
    have e0 : (docD l way).2 = 0 := by
      unfold docD
      rw [if_neg h0]
      split
      · rfl
      · split <;> rfl
    rw [if_pos e0, adl_f l hb (by omega)]
    simp only [Option.bind_some]
    rw [if_pos (by simp; omega), if_pos (by simp; omega)]
    simp [wrapL]
theorem wrap_any (w : World) (A : Option Addr) (n c : Nat) (l : List Int) (way : Int) (hn : l.length = n) (hr : ReadsInt w .u8 A n l) (hb : ∀ x ∈ l, 0 ≤ x ∧ x < 256) (hc : n ≤ c) (hl : n ≤ 60000) (r : List Int × Int) (he : (if way < 0 ∨ 2 < way then ([], 1) else (wrapL l way, 0)) = r) :
    Calls Tryd.prog 22 #[.slice A n c, .int .i64 way] w fun e w' => ∃ A' c', e = .returned (.tuple #[.slice A' r.1.length c', .int .i64 r.2]) ∧ Hid (Bs 5 w' w.heap.size (.slice A' r.1.length c') r.1) ∧ Hid (Below w.heap.size w w') := by
  subst hn
  have h := wrap_f l way hl hb
  rw [he] at h
  refine (zlib_Wrap.calls (l.length + 1) A c l way r.1 r.2 w (toC hr) hc h).mono ?_
  rintro e w1 ⟨v, rfl, hv, hb⟩
  obtain ⟨A', c', rfl, h1, h2, h3⟩ := r_open hv
  exact ⟨A', c', rfl, Lib.hid h3, Lib.hid hb⟩
theorem crc_nil (w : World) : Calls Tryd.prog 25 #[.slice none 0 0] w fun e w' => e = .returned (.int .u32 0) ∧ ∃ n, w' = w.drewN n := by
  refine (zlib_Crc.calls 1 none 0 [] 0 w (toC ⟨rfl, by simp, fun h => absurd h (by simp)⟩) (by simp) (by decide +kernel)).mono ?_
  rintro e w' ⟨rfl, hd⟩
  exact ⟨rfl, hd.out⟩
theorem reads_none (w : World) : ReadsInt w .u8 none 0 [] := ⟨rfl, by simp, fun h => absurd h (by simp)⟩
end Go.Proofs.YtkdklcamgcmifaaDoor
