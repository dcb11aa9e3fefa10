/- diff.inside of a point in the plane: true. -/
import Derived.Test.YtmnpcignolofaaaHPts
namespace Go.Proofs.Ytmnpcignolofaaa
set_option linter.unusedVariables false
set_option linter.unusedSimpArgs false
open Go.RowKit Go.Proofs.YtmnpcignolofaaaW.PrintWords Go.Proofs.YtmnpcignolofaaaW.PrintMore
theorem fl_subt : ∀ n m : Fin 62, m.val ≤ n.val → floatBits .sub .f64 (fl n.val) (fl m.val) = some (fl (n.val - m.val)) := by decide +kernel
theorem ord_geq (x y : Nat) (hx : x ≤ 61) (hy : y ≤ x) : (FloatKind.f64.format.order (fl x) (fl y) == some .gt || FloatKind.f64.format.order (fl x) (fl y) == some .eq) = true := by
  rw [fl_ord x y (by omega) (by omega)]
  rcases Nat.lt_or_eq_of_le hy with h | h
  · rw [Nat.compare_eq_gt.2 h]; rfl
  · subst h; rw [Nat.compare_eq_eq.2 rfl]; rfl
theorem ord_leq (x y : Nat) (hy : y ≤ 61) (hx : x ≤ y) : (FloatKind.f64.format.order (fl x) (fl y) == some .lt || FloatKind.f64.format.order (fl x) (fl y) == some .eq) = true := by
  rw [fl_ord x y (by omega) (by omega)]
  rcases Nat.lt_or_eq_of_le hx with h | h
  · rw [Nat.compare_eq_lt.2 h]; rfl
  · subst h; rw [Nat.compare_eq_eq.2 rfl]; rfl
theorem ord_eq (x y : Nat) (hx : x ≤ 61) (hy : y ≤ 61) : (FloatKind.f64.format.order (fl x) (fl y) == some .eq) = decide (x = y) := by
  rw [fl_ord x y (by omega) (by omega)]
  by_cases h : x = y
  · subst h; rw [Nat.compare_eq_eq.2 rfl]; simp
  · rw [decide_eq_false h]
    rcases Nat.lt_or_gt_of_ne h with h | h
    · rw [Nat.compare_eq_lt.2 h]; rfl
    · rw [Nat.compare_eq_gt.2 h]; rfl
theorem ord_lt (x y : Nat) (hx : x ≤ 61) (hy : y ≤ 61) : (FloatKind.f64.format.order (fl x) (fl y) == some .lt) = decide (x < y) := by
  rw [fl_ord x y (by omega) (by omega)]
  by_cases h : x < y
  · rw [decide_eq_true h, Nat.compare_eq_lt.2 h]; rfl
  · rw [decide_eq_false h]
    rcases Nat.lt_or_eq_of_le (Nat.le_of_not_lt h) with h | h
    · rw [Nat.compare_eq_gt.2 h]; rfl
    · subst h; rw [Nat.compare_eq_eq.2 rfl]; rfl
set_option maxRecDepth 20000 in
set_option maxHeartbeats 4000000 in
theorem inside_calls (x y n m : Nat) (hx : x ≤ n) (hy : y ≤ m) (hn : n ≤ 60) (hm : m ≤ 60) (W : World) :
    Calls Try.prog 47 #[.complex .f64 (fl x) (fl y), .int .i64 n, .int .i64 m] W fun e w' => e = .returned (.bool true) ∧ w' = W := by
  have e1 := cv_if n
  have e2 := cv_if m
  have e3 := cv_if x
  have e4 := cv_if y
  have g1 := ord_geq x 0 (by omega) (Nat.zero_le _)
  have g2 := ord_leq x n (by omega) hx
  have g3 := ord_geq y 0 (by omega) (Nat.zero_le _)
  have g4 := ord_leq y m (by omega) hy
  rw [fl_0] at g1 g3
  have q1 : (FloatKind.f64.format.order (fl x) (fl x) == some .eq) = true := by rw [ord_eq x x (by omega) (by omega), decide_eq_true rfl]
  have q2 : (FloatKind.f64.format.order (fl y) (fl y) == some .eq) = true := by rw [ord_eq y y (by omega) (by omega), decide_eq_true rfl]
  have HP := Lib.hid (parts_calls x y (by omega) (by omega) W)
  go_enter Try.func47, Try.ntmps47
  go_wp2_with fail
  refine HP.out.mono ?_
  rintro e w' ⟨rfl, rfl⟩
  go_wp2_with fail
  go_ret
  exact ⟨rfl, rfl⟩
end Go.Proofs.Ytmnpcignolofaaa
