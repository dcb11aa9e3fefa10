/- The document's reader: Length, Distance, copies. -/
import Derived.Test.YtkdklcamgcmifaaDoorHDocD
namespace Go.Proofs.YtkdklcamgcmifaaDoor
set_option linter.unusedVariables false
set_option linter.unusedSimpArgs false
open Go.RowKit Go.Proofs.YtkdklcamgcmifaaDoorW.PrintWords Go.Proofs.YtkdklcamgcmifaaDoorW.PrintMore
/-- The least length of a symbol, and how many bits more. -/
def lbs (s : Nat) : Nat := if s = 285 then 258 else if s < 265 then s - 254 else (4 + (s - 261) % 4) * 2 ^ ((s - 261) / 4) + 3
def lmr (s : Nat) : Nat := if s = 285 then 0 else if s < 265 then 0 else (s - 261) / 4
def dbs (s : Nat) : Nat := if s < 4 then s + 1 else (2 + s % 2) * 2 ^ (s / 2 - 1) + 1
def dmr (s : Nat) : Nat := if s < 4 then 0 else s / 2 - 1
set_option maxRecDepth 8000 in
set_option maxHeartbeats 4000000 in
theorem dlength_calls (s : Nat) (w : World) (h : 257 ≤ s ∧ s ≤ 285) : Calls Tryd.prog 69 #[.int .i64 s] w fun ee w' => ee = .returned (.tuple #[.int .i64 (lbs s), .int .i64 (lmr s)]) ∧ w' = w := by
  obtain ⟨h1, h2⟩ := h
  have HI : (s : Int) ≤ 285 := by omega
  have HI2 : (257 : Int) ≤ (s : Int) := by omega
  by_cases h5 : s = 285
  · subst h5
    go_enter Tryd.func69, Tryd.ntmps69
    go_wp2_with fail
    go_ret2
    exact ⟨rfl, rfl⟩
  · have i5 : ((s : Int) == 285) = false := by simp; omega
    by_cases h6 : s < 265
    · have i6 : (s : Int) < 265 := by omega
      have hv : ((s - 254 : Nat) : Int) = (s : Int) - 254 := by omega
      have e1 : lbs s = s - 254 := by unfold lbs; rw [if_neg h5, if_pos h6]
      have e2 : lmr s = 0 := by unfold lmr; rw [if_neg h5, if_pos h6]
      rw [e1, e2, hv]
      clear e1 e2 hv
      go_enter Tryd.func69, Tryd.ntmps69
      go_wp2_with fail
      go_ret2
      exact ⟨rfl, rfl⟩
    · have i6 : ¬ (s : Int) < 265 := by omega
      obtain ⟨m, hm⟩ : ∃ m, m = (s - 261) / 4 := ⟨_, rfl⟩
      obtain ⟨r, hr⟩ : ∃ r, r = (s - 261) % 4 := ⟨_, rfl⟩
      have hmi : ((s : Int) - 261).tdiv 4 = (m : Int) := by rw [Int.tdiv_eq_ediv_of_nonneg (by omega)]; omega
      have hri : ((s : Int) - 261).tmod 4 = (r : Int) := by rw [Int.tmod_eq_emod_of_nonneg (by omega)]; omega
      have hm5 : m ≤ 5 := by omega
      have hp : 2 ^ m ≤ 32 := Nat.le_trans (Nat.pow_le_pow_right (n := 2) (by decide) hm5) (by decide)
      obtain ⟨z, hz⟩ : ∃ z, z = (4 + r) * 2 ^ m := ⟨_, rfl⟩
      have hz2 : z ≤ 7 * 32 := by rw [hz]; exact Nat.mul_le_mul (by omega) hp
      have hzi : (4 + (r : Int)) * 2 ^ m = (z : Int) := by rw [hz]; simp
      have e1 : lbs s = z + 3 := by unfold lbs; rw [if_neg h5, if_neg h6, ← hm, ← hr, hz]
      have e2 : lmr s = m := by unfold lmr; rw [if_neg h5, if_neg h6, hm]
      have hmI : (m : Int) ≤ 5 := by omega
      have hrI : (r : Int) ≤ 3 := by omega
      have hzI : (z : Int) ≤ 224 := by omega
      have hm0 : (0 : Int) ≤ (m : Int) := by omega
      have hr0 : (0 : Int) ≤ (r : Int) := by omega
      rw [e1, e2]
      clear e1 e2 hz hp hm hr hz2 h1 h2 h5 h6 hm5
      go_enter Tryd.func69, Tryd.ntmps69
      go_wp2_with fail
      go_ret2
      refine ⟨?_, rfl⟩
      show Ending.returned (.tuple #[.int .i64 (3 + (z : Int)), .int .i64 m]) = _
      rw [Int.add_comm 3 (z : Int)]
set_option maxRecDepth 8000 in
set_option maxHeartbeats 4000000 in
theorem ddist_calls (s : Nat) (w : World) (h : s ≤ 29) : Calls Tryd.prog 70 #[.int .i64 s] w fun ee w' => ee = .returned (.tuple #[.int .i64 (dbs s), .int .i64 (dmr s)]) ∧ w' = w := by
  have HI : (s : Int) ≤ 29 := by omega
  by_cases h6 : s < 4
  · have i6 : (s : Int) < 4 := by omega
    have hv : ((s + 1 : Nat) : Int) = (s : Int) + 1 := by omega
    have e1 : dbs s = s + 1 := by unfold dbs; rw [if_pos h6]
    have e2 : dmr s = 0 := by unfold dmr; rw [if_pos h6]
    rw [e1, e2, hv]
    clear e1 e2 hv
    go_enter Tryd.func70, Tryd.ntmps70
    go_wp2_with fail
    go_ret2
    exact ⟨rfl, rfl⟩
  · have i6 : ¬ (s : Int) < 4 := by omega
    obtain ⟨m, hm⟩ : ∃ m, m = s / 2 - 1 := ⟨_, rfl⟩
    obtain ⟨r, hr⟩ : ∃ r, r = s % 2 := ⟨_, rfl⟩
    have hmi : (s : Int).tdiv 2 = (m : Int) + 1 := by rw [Int.tdiv_eq_ediv_of_nonneg (by omega)]; omega
    have hri : (s : Int).tmod 2 = (r : Int) := by rw [Int.tmod_eq_emod_of_nonneg (by omega)]; omega
    have hm5 : m ≤ 13 := by omega
    have hp : 2 ^ m ≤ 8192 := Nat.le_trans (Nat.pow_le_pow_right (n := 2) (by decide) hm5) (by decide)
    obtain ⟨z, hz⟩ : ∃ z, z = (2 + r) * 2 ^ m := ⟨_, rfl⟩
    have hz2 : z ≤ 3 * 8192 := by rw [hz]; exact Nat.mul_le_mul (by omega) hp
    have hzi : (2 + (r : Int)) * 2 ^ m = (z : Int) := by rw [hz]; simp
    have e1 : dbs s = z + 1 := by unfold dbs; rw [if_neg h6, ← hm, ← hr, hz]
    have e2 : dmr s = m := by unfold dmr; rw [if_neg h6, hm]
    have hmI : (m : Int) ≤ 13 := by omega
    have hrI : (r : Int) ≤ 1 := by omega
    have hzI : (z : Int) ≤ 24576 := by omega
    have hm0 : (0 : Int) ≤ (m : Int) := by omega
    have hr0 : (0 : Int) ≤ (r : Int) := by omega
    have hmm : (m : Int) + 1 - 1 = (m : Int) := by omega
    rw [e1, e2]
    clear e1 e2 hz hp hm hr hz2 h h6 hm5
    go_enter Tryd.func70, Tryd.ntmps70
    go_wp2_with fail
    go_ret2
    refine ⟨?_, rfl⟩
    show Ending.returned (.tuple #[.int .i64 (1 + (z : Int)), .int .i64 m]) = _
    rw [Int.add_comm 1 (z : Int)]
/-- Where a reading of n bits follows. -/
theorem lenR_dk {s T N q x q' : Nat} {e' : Int} (hs : s ≤ 285) (hq : q ≤ N) (h : DkC N T q 0 (lmr s) x q' e') : (e' = 0 ∧ lenR s T N q = .ok (lbs s + x, q')) ∨ (e' = 5 ∧ lenR s T N q = .error 5) := by
  have hx := h.1
  rcases h.2 with ⟨h, _⟩ | ⟨_, h⟩
  · exact absurd rfl h
  unfold lenR
  unfold lmr at h hx
  unfold lbs
  rw [if_neg (by omega)]
  by_cases h5 : s = 285
  · rw [if_pos h5] at h hx ⊢
    rw [if_pos h5]
    rcases h with ⟨ht, rfl⟩ | ⟨ht, rfl⟩
    · unfold tk at ht
      rw [if_pos (by omega)] at ht
      simp only [Nat.pow_zero, Nat.mod_one, Except.ok.injEq, Prod.mk.injEq] at ht
      exact .inl ⟨rfl, by rw [← ht.1, ← ht.2]; rfl⟩
    · unfold tk at ht
      rw [if_pos (by omega)] at ht
      cases ht
  · rw [if_neg h5] at h hx ⊢
    rw [if_neg h5]
    by_cases h6 : s < 265
    · rw [if_pos h6] at h hx ⊢
      rw [if_pos h6]
      rcases h with ⟨ht, rfl⟩ | ⟨ht, rfl⟩
      · unfold tk at ht
        rw [if_pos (by omega)] at ht
        simp only [Nat.pow_zero, Nat.mod_one, Except.ok.injEq, Prod.mk.injEq] at ht
        exact .inl ⟨rfl, by rw [← ht.1, ← ht.2]; simp only [retR, Nat.add_zero]⟩
      · unfold tk at ht
        rw [if_pos (by omega)] at ht
        cases ht
    · rw [if_neg h6] at h hx ⊢
      rw [if_neg h6]
      generalize (s - 261) / 4 = m at *
      generalize (s - 261) % 4 = r at *
      generalize (4 + r) * 2 ^ m + 3 = z at *
      rcases h with ⟨ht, rfl⟩ | ⟨ht, rfl⟩
      · exact .inl ⟨rfl, by simp only [bndR, ht, retR]⟩
      · exact .inr ⟨rfl, by simp only [bndR, ht]⟩
theorem disR_dk {s T N q x q' : Nat} {e' : Int} (hs : s ≤ 29) (hq : q ≤ N) (h : DkC N T q 0 (dmr s) x q' e') : (e' = 0 ∧ disR s T N q = .ok (dbs s + x, q')) ∨ (e' = 5 ∧ disR s T N q = .error 5) := by
  have hx := h.1
  rcases h.2 with ⟨h, _⟩ | ⟨_, h⟩
  · exact absurd rfl h
  unfold disR
  unfold dmr at h hx
  unfold dbs
  rw [if_neg (by omega)]
  by_cases h6 : s < 4
  · rw [if_pos h6] at h hx ⊢
    rw [if_pos h6]
    rcases h with ⟨ht, rfl⟩ | ⟨ht, rfl⟩
    · unfold tk at ht
      rw [if_pos (by omega)] at ht
      simp only [Nat.pow_zero, Nat.mod_one, Except.ok.injEq, Prod.mk.injEq] at ht
      exact .inl ⟨rfl, by rw [← ht.1, ← ht.2]; rfl⟩
    · unfold tk at ht
      rw [if_pos (by omega)] at ht
      cases ht
  · rw [if_neg h6] at h hx ⊢
    rw [if_neg h6]
    rcases h with ⟨ht, rfl⟩ | ⟨ht, rfl⟩
    · exact .inl ⟨rfl, by simp only [bndR, ht, retR]⟩
    · exact .inr ⟨rfl, by simp only [bndR, ht]⟩
end Go.Proofs.YtkdklcamgcmifaaDoor
