/- What a copy's bytes name, in plain Lean. -/
import Derived.Test.YtiocipmnmjpkfaaHPutCopy
namespace Go.Proofs.Ytiocipmnmjpkfaa
set_option linter.unusedVariables false
set_option linter.unusedSimpArgs false
open Go.RowKit Go.Proofs.YtiocipmnmjpkfaaW.PrintWords Go.Proofs.YtiocipmnmjpkfaaW.PrintMore

theorem mk_bit (f : Nat → Int) : ∀ j, j ≤ 7 → ∀ i, i < j → mkB f j / 2 ^ i % 2 = if f i = 0 then 0 else 1 := by
  intro j
  induction j with
  | zero => intro _ i hi; omega
  | succ j ih =>
    intro hj i hi
    have hb := mkB_bound f j
    rcases Nat.lt_or_ge i j with h | h
    · rw [← ih (by omega) i h]
      simp only [mkB]
      split
      · rfl
      · have h6 : j = 1 ∨ j = 2 ∨ j = 3 ∨ j = 4 ∨ j = 5 ∨ j = 6 := by omega
        generalize mkB f j = m at *
        have hi6 : i = 0 ∨ i = 1 ∨ i = 2 ∨ i = 3 ∨ i = 4 ∨ i = 5 := by omega
        rcases h6 with rfl | rfl | rfl | rfl | rfl | rfl <;> rcases hi6 with rfl | rfl | rfl | rfl | rfl | rfl <;> first | omega | (simp; omega)
    · obtain rfl : i = j := by omega
      simp only [mkB]
      have h6 : i = 0 ∨ i = 1 ∨ i = 2 ∨ i = 3 ∨ i = 4 ∨ i = 5 ∨ i = 6 := by omega
      generalize mkB f i = m at *
      split
      · rcases h6 with rfl | rfl | rfl | rfl | rfl | rfl | rfl <;> simp at hb ⊢ <;> omega
      · rcases h6 with rfl | rfl | rfl | rfl | rfl | rfl | rfl <;> simp at hb ⊢ <;> omega
theorem lsB_pre (f : Nat → Int) (i : Nat) : ∀ d, ∃ r, lsB f (i + d) = lsB f i ++ r := by
  intro d
  induction d with
  | zero => exact ⟨[], by simp⟩
  | succ d ih =>
    obtain ⟨r, hr⟩ := ih
    rw [← Nat.add_assoc]
    simp only [lsB]
    split
    · exact ⟨r, hr⟩
    · exact ⟨r ++ [f (i + d)], by rw [hr, List.append_assoc]⟩
theorem pick_copy (f : Nat → Int) (rest : List Int) : ∀ i, i ≤ 7 → pickV (mkB f 7) (lsB f 7 ++ rest) i = some ((List.range i).map f, (lsB f i).length) := by
  intro i
  induction i with
  | zero => intro _; rfl
  | succ i ih =>
    intro hi
    have h1 := ih (by omega)
    have hb := mk_bit f 7 (Nat.le_refl _) i (by omega)
    by_cases h0 : f i = 0
    · rw [if_pos h0] at hb
      rw [pickV_zero _ _ _ h1 hb, List.range_succ, List.map_append]
      simp [lsB, h0]
    · rw [if_neg h0] at hb
      obtain ⟨r, hr⟩ := lsB_pre f (i + 1) (7 - (i + 1))
      rw [show i + 1 + (7 - (i + 1)) = 7 from by omega] at hr
      have hs : lsB f (i + 1) = lsB f i ++ [f i] := by simp [lsB, h0]
      have hl : (lsB f i).length < (lsB f 7 ++ rest).length := by rw [hr, hs]; simp
      have hg : (lsB f 7 ++ rest).getD (lsB f i).length 0 = f i := by
        rw [hr, hs]
        simp
      rw [pickV_one _ _ _ h1 (by rw [hb]; decide) hl, hg, hs, List.range_succ, List.map_append]
      simp
theorem cp_at (at_ n : Int) (h0 : 0 ≤ at_) (h1 : at_ < 4294967296) : atV ((List.range 7).map (cpB at_ n)) = at_ := by
  show leV [cpB at_ n 0, cpB at_ n 1, cpB at_ n 2, cpB at_ n 3] = at_
  simp [leV, cpB]
  omega
theorem cp_cnt (at_ n : Int) (h0 : 1 ≤ n) (h1 : n < 16777216) : cntV ((List.range 7).map (cpB at_ n)) = n := by
  unfold cntV
  have e : leV (((List.range 7).map (cpB at_ n)).drop 4) = leV [cpB at_ n 4, cpB at_ n 5, cpB at_ n 6] := rfl
  rw [e]
  by_cases hn : n = 65536
  · subst hn
    simp [leV, cpB]
  · have e2 : leV [cpB at_ n 4, cpB at_ n 5, cpB at_ n 6] = n := by
      simp [leV, cpB, hn]
      omega
    rw [e2, if_neg (by omega)]
theorem one_copy (base rest : List Int) (at_ n : Nat) (h1 : at_ < 4294967296) (h2 : 1 ≤ n) (h3 : n < 16777216) (hb : at_ + n ≤ base.length) :
    oneF base (mkB (cpB at_ n) 7) (lsB (cpB at_ n) 7 ++ rest) = (0, (base.drop at_).take n, rest) := by
  have hm := mkB_bound (cpB at_ n) 7
  rw [oneF_some base _ _ (by omega) (by omega) (pick_copy (cpB at_ n) rest 7 (Nat.le_refl _)), cp_at _ _ (by omega) (by omega), cp_cnt _ _ (by omega) (by omega), if_neg (by omega), Int.toNat_natCast, Int.toNat_natCast]
  simp
theorem cpB_byte (at_ n : Int) (i : Nat) : 0 ≤ cpB at_ n i ∧ cpB at_ n i < 256 := by
  unfold cpB
  split
  · omega
  · split <;> omega
theorem lsB_bytes (f : Nat → Int) (hf : ∀ i, 0 ≤ f i ∧ f i < 256) : ∀ i, ∀ x ∈ lsB f i, 0 ≤ x ∧ x < 256 := by
  intro i
  induction i with
  | zero => intro x hx; simp [lsB] at hx
  | succ i ih =>
    intro x hx
    simp only [lsB] at hx
    split at hx
    · exact ih x hx
    · rcases List.mem_append.1 hx with hx | hx
      · exact ih x hx
      · rw [List.mem_singleton] at hx; rw [hx]; exact hf i
theorem copyL_bytes (at_ n : Int) : ∀ x ∈ copyL at_ n, 0 ≤ x ∧ x < 256 := by
  intro x hx
  have hm := mkB_bound (cpB at_ n) 7
  unfold copyL at hx
  rcases List.mem_cons.1 hx with rfl | hx
  · omega
  · exact lsB_bytes _ (cpB_byte at_ n) 7 x hx
end Go.Proofs.Ytiocipmnmjpkfaa
