/- The document's reader: are lengths right? In plain Lean. -/
import Derived.Test.YtkdklcamgcmifaaDoorHDocG
namespace Go.Proofs.YtkdklcamgcmifaaDoor
set_option linter.unusedVariables false
set_option linter.unusedSimpArgs false
open Go.RowKit Go.Proofs.YtkdklcamgcmifaaDoorW.PrintWords Go.Proofs.YtkdklcamgcmifaaDoorW.PrintMore
/-- The sum of the codes' shares, how many there are, and the last one's length. -/
def sumS : List Nat → Nat
  | [] => 0
  | x :: l => (if x = 0 then 0 else 2 ^ (15 - x)) + sumS l
def cntS (l : List Nat) : Nat := l.length - l.count 0
def fstS (l : List Nat) : Nat := l.foldl (fun a n => if n = 0 then a else n) 0
def rgtF (l : List Nat) (nn : Bool) : Bool := sumS l == 32768 || cntS l == 1 && fstS l == 1 || nn && cntS l == 0
theorem sumS_snoc (m : List Nat) (x : Nat) : sumS (m ++ [x]) = sumS m + if x = 0 then 0 else 2 ^ (15 - x) := by
  induction m with
  | nil => simp [sumS]
  | cons y m ih => simp only [List.cons_append, sumS, ih]; omega
theorem fstS_snoc (m : List Nat) (x : Nat) : fstS (m ++ [x]) = if x = 0 then fstS m else x := by simp [fstS, List.foldl_append]
theorem cntS_snoc (m : List Nat) (x : Nat) : cntS (m ++ [x]) = cntS m + if x = 0 then 0 else 1 := by
  have h := List.count_le_length (a := 0) (l := m)
  unfold cntS
  rw [count_snoc, List.length_append, List.length_singleton]
  by_cases e : x = 0
  · rw [if_pos e, if_pos e]; omega
  · rw [if_neg e, if_neg e]; omega
theorem cntS_le (l : List Nat) : cntS l ≤ l.length := Nat.sub_le _ _
theorem sumS_le (l : List Nat) : sumS l ≤ 32768 * l.length := by
  induction l with
  | nil => simp [sumS]
  | cons x l ih =>
    have : (if x = 0 then 0 else 2 ^ (15 - x)) ≤ 32768 := by
      split
      · omega
      · exact Nat.le_trans (Nat.pow_le_pow_right (by decide) (Nat.sub_le _ _)) (by decide)
    simp only [sumS, List.length_cons]
    omega
theorem leftT_cons (x : Nat) (l : List Nat) (hx : x ≠ 0) : ∀ n, leftT (x :: l) n = leftT l n - (if x ≤ n then ((2 ^ (n - x) : Nat) : Int) else 0) := by
  intro n
  induction n with
  | zero => rw [if_neg (by omega)]; simp [leftT]
  | succ n ih =>
    show 2 * leftT (x :: l) n - ((x :: l).count (n + 1) : Int) = 2 * leftT l n - (l.count (n + 1) : Int) - _
    rw [ih, List.count_cons]
    by_cases h1 : x ≤ n
    · rw [if_pos h1, if_pos (show x ≤ n + 1 by omega), show n + 1 - x = (n - x) + 1 by omega, Nat.pow_succ]
      have : ((x == n + 1) = true) = False := by simp; omega
      simp only [this, if_false]
      push_cast
      omega
    · rw [if_neg h1]
      by_cases h2 : x = n + 1
      · subst h2
        simp
        omega
      · have : ((x == n + 1) = true) = False := by simp; omega
        simp only [this, if_false]
        rw [if_neg (show ¬ x ≤ n + 1 by omega)]
        omega
theorem leftT_cons0 (l : List Nat) : ∀ n, leftT (0 :: l) n = leftT l n := by
  intro n
  induction n with
  | zero => rfl
  | succ n ih => simp [leftT, ih, List.count_cons]
theorem leftT_nil : ∀ n, leftT [] n = ((2 ^ n : Nat) : Int) := by
  intro n
  induction n with
  | zero => rfl
  | succ n ih => simp only [leftT, ih, List.count_nil, Nat.pow_succ]; push_cast; omega
theorem leftT_sum (l : List Nat) (h : ∀ x ∈ l, x < 16) : leftT l 15 = 32768 - (sumS l : Int) := by
  induction l with
  | nil => rw [leftT_nil]; rfl
  | cons x l ih =>
    have h1 := ih fun y hy => h y (List.mem_cons_of_mem _ hy)
    have h2 := h x List.mem_cons_self
    by_cases e : x = 0
    · subst e
      rw [leftT_cons0, h1]
      simp [sumS]
    · rw [leftT_cons x l e, h1, if_pos (by omega)]
      simp only [sumS, if_neg e]
      push_cast
      omega
theorem leftT_down (l : List Nat) : ∀ k n, leftT l n < 0 → leftT l (n + k) < 0 := by
  intro k
  induction k with
  | zero => exact fun n h => h
  | succ k ih =>
    intro n h
    have := ih n h
    show 2 * leftT l (n + k) - _ < 0
    omega
theorem leftT_all {l : List Nat} (h : 0 ≤ leftT l 15) : ∀ n, n ≤ 15 → 0 ≤ leftT l n := by
  intro n hn
  rcases Int.lt_or_le (leftT l n) 0 with h1 | h1
  · have := leftT_down l (15 - n) n h1
    rw [show n + (15 - n) = 15 by omega] at this
    omega
  · exact h1
theorem snoc_ind {P : List Nat → Prop} (h0 : P []) (h1 : ∀ l x, P l → P (l ++ [x])) : ∀ l, P l := by
  intro l
  rw [← List.reverse_reverse l]
  induction l.reverse with
  | nil => exact h0
  | cons x m ih => rw [List.reverse_cons]; exact h1 _ _ ih
theorem one_way (l : List Nat) : l.count 1 ≤ cntS l ∧ (cntS l = 0 → fstS l = 0) ∧ (cntS l = 1 → (fstS l = 1 ↔ l.count 1 = 1)) := by
  revert l
  apply snoc_ind
  · simp [cntS, fstS]
  · intro l x ⟨h1, h2, h3⟩
    rw [cntS_snoc, fstS_snoc, count_snoc]
    by_cases e : x = 0
    · subst e
      simpa using ⟨h1, h2, h3⟩
    · rw [if_neg e, if_neg e]
      refine ⟨by split <;> omega, by omega, fun h => ?_⟩
      by_cases e1 : x = 1
      · rw [if_pos e1]; constructor <;> omega
      · rw [if_neg e1]; constructor <;> omega
theorem cnt_sym {l : List Nat} (h : ∀ x ∈ l, x < 16) : (symT l).length = cntS l := by
  have := used_eq h
  unfold cntS
  omega
theorem sum_cnt (l : List Nat) : cntS l ≤ 1 → sumS l ≤ 32768 := by
  revert l
  apply snoc_ind
  · simp [sumS]
  · intro l x ih
    rw [cntS_snoc, sumS_snoc]
    by_cases e : x = 0
    · rw [if_pos e, if_pos e]; simpa using ih
    · rw [if_neg e, if_neg e]
      intro h
      have h0 : cntS l = 0 := by omega
      have : sumS l = 0 := by
        clear ih h
        revert h0
        revert l
        apply snoc_ind
        · simp [sumS]
        · intro l y ih2
          rw [cntS_snoc, sumS_snoc]
          by_cases e : y = 0
          · rw [if_pos e, if_pos e]; simpa using ih2
          · rw [if_neg e]; omega
      have : 2 ^ (15 - x) ≤ 2 ^ 15 := Nat.pow_le_pow_right (by decide) (Nat.sub_le _ _)
      omega
theorem rgt_ok {l : List Nat} (nn : Bool) (h : ∀ x ∈ l, x < 16) : rgtF l nn = okT l nn := by
  have hs := leftT_sum l h
  have hc := cnt_sym h
  obtain ⟨h1, h2, h3⟩ := one_way l
  have hq := sum_cnt l
  unfold rgtF okT
  rw [hc]
  by_cases hall : 0 ≤ leftT l 15
  · have ha : ((List.range 15).all fun n => decide (0 ≤ leftT l (n + 1))) = true := by
      rw [List.all_eq_true]
      intro n hn
      rw [List.mem_range] at hn
      simpa using leftT_all hall (n + 1) (by omega)
    rw [ha, Bool.true_and, hs]
    have e1 : (sumS l == 32768) = ((32768 - (sumS l : Int)) == 0) := by
      rw [Bool.eq_iff_iff]; simp; omega
    have e2 : (cntS l == 1 && fstS l == 1) = (cntS l == 1 && l.count 1 == 1) := by
      rw [Bool.eq_iff_iff]
      simp only [Bool.and_eq_true, beq_iff_eq]
      constructor
      · rintro ⟨a, b⟩; exact ⟨a, (h3 a).1 b⟩
      · rintro ⟨a, b⟩; exact ⟨a, (h3 a).2 b⟩
    rw [e1, e2]
  · have ha : ((List.range 15).all fun n => decide (0 ≤ leftT l (n + 1))) = false := by
      rw [Bool.eq_false_iff]
      intro hh
      rw [List.all_eq_true] at hh
      have := hh 14 (by simp)
      simp at this
      omega
    rw [ha, Bool.false_and]
    have e1 : (sumS l == 32768) = false := by simp; omega
    have e2 : (cntS l == 1) = false := by
      rw [Bool.eq_false_iff]
      intro hh
      have := hq (by simp at hh; omega)
      omega
    have e3 : (cntS l == 0) = false := by
      rw [Bool.eq_false_iff]
      intro hh
      have := hq (by simp at hh; omega)
      omega
    rw [e1, e2, e3]
    simp
end Go.Proofs.YtkdklcamgcmifaaDoor
