/- Whole numbers up to 1001 as float64: their bits and their order. -/
import Derived.Test.YtmnpcignolofaaaDoorHLayW
import Derived.Laws.ComplexArith
namespace Go.Proofs.YtmnpcignolofaaaDoor
set_option linter.unusedVariables false
set_option linter.unusedSimpArgs false
open Go.RowKit Go.Proofs.YtmnpcignolofaaaDoorW.PrintWords Go.Proofs.YtmnpcignolofaaaDoorW.PrintMore
def fl (n : Nat) : Nat := floatOfInt .f64 (n : Int)
theorem fl_0 : fl 0 = 0 := by decide +kernel
theorem fl_1 : fl 1 = 4607182418800017408 := by decide +kernel
theorem fl_read : ∀ n : Fin 1002, n.val ≠ 0 → FloatKind.f64.format.read (fl n.val) = .number false (n.val <<< (52 - n.val.log2)) ((n.val.log2 : Int) - 52) := by decide +kernel
theorem fl_read0 : FloatKind.f64.format.read (fl 0) = .number false 0 (-1074) := by decide +kernel
theorem cmp_mul (n m K : Nat) (hK : 0 < K) : compare (((n * K : Nat)) : Int) ((m * K : Nat) : Int) = compare n m := by
  simp only [compare, compareOfLessAndEq, Int.ofNat_lt, Int.ofNat_inj, Nat.mul_lt_mul_right hK, Nat.mul_left_inj (Nat.pos_iff_ne_zero.1 hK)]
theorem fl_ord (n m : Nat) (hn : n ≤ 1001) (hm : m ≤ 1001) : FloatKind.f64.format.order (fl n) (fl m) = some (compare n m) := by
  have key : ∀ k, k ≤ 1001 → ∃ i : Int, ∃ p : Nat, FloatKind.f64.format.read (fl k) = .number false p i ∧ ∀ b : Int, b ≤ i → b ≤ 0 → p <<< (i - b).toNat = k * 2 ^ (-b).toNat := by
    intro k hk
    by_cases h0 : k = 0
    · subst h0
      exact ⟨_, _, fl_read0, fun b _ _ => by rw [Nat.zero_shiftLeft, Nat.zero_mul]⟩
    · refine ⟨_, _, fl_read ⟨k, by omega⟩ h0, fun b hb hb0 => ?_⟩
      have hl : k.log2 < 10 := (Nat.log2_lt h0).2 (by omega)
      simp only
      rw [Nat.shiftLeft_eq, Nat.shiftLeft_eq, Nat.mul_assoc, ← Nat.pow_add]
      congr 2
      simp only at hb
      omega
  obtain ⟨i, p, e1, h1⟩ := key n hn
  obtain ⟨j, q, e2, h2⟩ := key m hm
  have hi : i ≤ 0 := by
    by_cases h0 : n = 0
    · subst h0; rw [fl_read0] at e1; cases e1; decide
    · rw [fl_read ⟨n, by omega⟩ h0] at e1
      have hl : n.log2 < 10 := (Nat.log2_lt h0).2 (by omega)
      cases e1
      simp only
      omega
  unfold Ieee.Format.order
  rw [e1, e2]
  show some (compare ((p <<< (i - min i j).toNat : Nat) : Int) ((q <<< (j - min i j).toNat : Nat) : Int)) = _
  rw [h1 _ (Int.min_le_left _ _) (by have := Int.min_le_left i j; omega), h2 _ (Int.min_le_right _ _) (by have := Int.min_le_left i j; omega), cmp_mul _ _ _ (Nat.pow_pos (by decide))]
theorem fl_add1 : ∀ n : Fin 1002, floatBits .add .f64 (fl n.val) 4607182418800017408 = some (fl (n.val + 1)) := by decide +kernel
theorem fl_add0 : ∀ n : Fin 1002, floatBits .add .f64 (fl n.val) 0 = some (fl n.val) := by decide +kernel
theorem fl_int : ∀ n : Fin 1002, floatToIntVal .f64 (fl n.val) .i64 = some (n.val : Int) := by decide +kernel
theorem fl_eq (n m : Fin 1002) : (FloatKind.f64.format.order (fl n.val) (fl m.val) == some .eq) = decide (n.val = m.val) := by
  rw [fl_ord n.val m.val (by omega) (by omega)]
  by_cases h : n.val = m.val
  · rw [h, Nat.compare_eq_eq.2 rfl]; simp
  · rw [decide_eq_false h]
    rcases Nat.lt_or_gt_of_ne h with h | h
    · rw [Nat.compare_eq_lt.2 h]; rfl
    · rw [Nat.compare_eq_gt.2 h]; rfl
end Go.Proofs.YtmnpcignolofaaaDoor
