/- The way is shortest: how many lines both have in common, by trying all. -/
import Derived.Test.YtmnpcignolofaaaHWayF
namespace Go.Proofs.Ytmnpcignolofaaa
set_option linter.unusedVariables false
set_option linter.unusedSimpArgs false
open Go.RowKit Go.Proofs.YtmnpcignolofaaaW.PrintWords Go.Proofs.YtmnpcignolofaaaW.PrintMore
section
variable {α : Type}
/-- What stands behind the first s. -/
def after [DecidableEq α] (s : α) : List α → Option (List α)
  | [] => none
  | y :: r => if y = s then some r else after s r
/-- The size of the picked lines, met in turn; -100, if they are not. -/
def pickF [DecidableEq α] : List α → List α → Int → Int
  | [], _, z => z
  | s :: r, b, z => match after s b with
    | none => -100
    | some b' => pickF r b' (z + 1)
/-- The lines that a number picks, the lowest bit first. -/
def selF : Nat → List α → List α
  | _, [] => []
  | k, s :: r => if k % 2 = 1 then s :: selF (k / 2) r else selF (k / 2) r
theorem selF_sub : ∀ (a : List α) (k : Nat), (selF k a).Sublist a := by
  intro a
  induction a with
  | nil => intro k; exact List.Sublist.refl _
  | cons s r ih =>
    intro k
    rw [selF]
    split
    · exact (ih (k / 2)).cons_cons s
    · exact (ih (k / 2)).cons s
theorem selF_all {sel a : List α} (h : sel.Sublist a) : ∃ k, k < 2 ^ a.length ∧ selF k a = sel := by
  induction h with
  | slnil => exact ⟨0, Nat.one_pos, rfl⟩
  | cons s h ih =>
    obtain ⟨k, hk, e⟩ := ih
    refine ⟨2 * k, by rw [List.length_cons, Nat.pow_succ]; omega, ?_⟩
    rw [selF, if_neg (by omega), show 2 * k / 2 = k by omega, e]
  | cons_cons s h ih =>
    obtain ⟨k, hk, e⟩ := ih
    refine ⟨2 * k + 1, by rw [List.length_cons, Nat.pow_succ]; omega, ?_⟩
    rw [selF, if_pos (by omega), show (2 * k + 1) / 2 = k by omega, e]
theorem after_sub [DecidableEq α] {s : α} {r : List α} : ∀ {b : List α}, (s :: r).Sublist b → ∃ b', after s b = some b' ∧ r.Sublist b' := by
  intro b
  induction b with
  | nil => intro h; cases h
  | cons y b ih =>
    intro h
    rw [after]
    by_cases e : y = s
    · rw [if_pos e]
      refine ⟨b, rfl, ?_⟩
      cases h with
      | cons _ h => exact (List.sublist_cons_self s r).trans h
      | cons_cons _ h => exact h
    · rw [if_neg e]
      cases h with
      | cons _ h => exact ih h
      | cons_cons _ h => exact absurd rfl e
theorem after_some [DecidableEq α] {s : α} {b' : List α} : ∀ {b : List α}, after s b = some b' → (s :: b').Sublist b := by
  intro b
  induction b with
  | nil => intro h; cases h
  | cons y b ih =>
    intro h
    rw [after] at h
    split at h
    · rename_i e
      cases h
      rw [e]
      exact List.Sublist.refl _
    · exact (ih h).cons y
theorem pickF_sub [DecidableEq α] : ∀ (sel b : List α) (z : Int), sel.Sublist b → pickF sel b z = z + sel.length := by
  intro sel
  induction sel with
  | nil => intro b z _; simp [pickF]
  | cons s r ih =>
    intro b z h
    obtain ⟨b', h1, h2⟩ := after_sub h
    rw [pickF, h1]
    simp only
    rw [ih b' (z + 1) h2]
    simp
    omega
theorem pickF_cases [DecidableEq α] : ∀ (sel b : List α) (z : Int), pickF sel b z = -100 ∨ (sel.Sublist b ∧ pickF sel b z = z + sel.length) := by
  intro sel
  induction sel with
  | nil => intro b z; exact .inr ⟨List.nil_sublist b, by simp [pickF]⟩
  | cons s r ih =>
    intro b z
    rw [pickF]
    cases h : after s b with
    | none => exact .inl rfl
    | some b' =>
      simp only
      rcases ih b' (z + 1) with h1 | ⟨h1, h2⟩
      · exact .inl h1
      · refine .inr ⟨(h1.cons_cons s).trans (after_some h), ?_⟩
        rw [h2]
        simp
        omega
theorem ed_of_sub {sel a : List α} (h : sel.Sublist a) : Ed a sel (a.length - sel.length) := by
  induction h with
  | slnil => exact .nil
  | cons s h ih =>
    rename_i l1 l2
    have := h.length_le
    rw [List.length_cons, show l2.length + 1 - l1.length = l2.length - l1.length + 1 by omega]
    exact .del s ih
  | cons_cons s h ih =>
    rename_i l1 l2
    rw [List.length_cons, List.length_cons, show l2.length + 1 - (l1.length + 1) = l2.length - l1.length by omega]
    exact .keep s ih
theorem sub_dist [DecidableEq α] {sel a b : List α} (h1 : sel.Sublist a) (h2 : sel.Sublist b) : dist a b + 2 * sel.length ≤ a.length + b.length := by
  have e1 := dist_le_ed (ed_of_sub h1)
  have e2 := dist_le_ed (ed_of_sub h2)
  have e3 := dist_tri a sel b
  rw [dist_symm _ sel b rfl] at e3
  have := h1.length_le
  have := h2.length_le
  omega
theorem ed_sub {a b : List α} {n : Nat} (h : Ed a b n) : ∃ sel : List α, sel.Sublist a ∧ sel.Sublist b ∧ n + 2 * sel.length = a.length + b.length := by
  induction h with
  | nil => exact ⟨[], List.Sublist.refl _, List.Sublist.refl _, rfl⟩
  | del x _ ih =>
    obtain ⟨s, h1, h2, h3⟩ := ih
    exact ⟨s, h1.cons x, h2, by simp; omega⟩
  | ins y _ ih =>
    obtain ⟨s, h1, h2, h3⟩ := ih
    exact ⟨s, h1, h2.cons y, by simp; omega⟩
  | keep x _ ih =>
    obtain ⟨s, h1, h2, h3⟩ := ih
    exact ⟨x :: s, h1.cons_cons x, h2.cons_cons x, by simp; omega⟩
/-- The greatest of the first k picks. -/
def mostF [DecidableEq α] (a b : List α) : Nat → Int
  | 0 => 0
  | k + 1 => if mostF a b k < pickF (selF k a) b 0 then pickF (selF k a) b 0 else mostF a b k
theorem mostF_ge [DecidableEq α] (a b : List α) : ∀ k j, j < k → pickF (selF j a) b 0 ≤ mostF a b k := by
  intro k
  induction k with
  | zero => intro j h; omega
  | succ k ih =>
    intro j h
    rw [mostF]
    rcases Nat.lt_or_ge j k with e | e
    · have := ih j e
      split <;> omega
    · obtain rfl : j = k := by omega
      split <;> omega
theorem mostF_le [DecidableEq α] (a b : List α) (L : Int) (hL : 0 ≤ L) (h : ∀ j, pickF (selF j a) b 0 ≤ L) : ∀ k, 0 ≤ mostF a b k ∧ mostF a b k ≤ L := by
  intro k
  induction k with
  | zero => rw [mostF]; omega
  | succ k ih =>
    have := h k
    rw [mostF]
    split <;> omega
theorem most_is [DecidableEq α] (a b : List α) : (dist a b : Int) = a.length + b.length - 2 * mostF a b (2 ^ a.length) := by
  obtain ⟨sel, h1, h2, h3⟩ := ed_sub (ed_dist _ a b rfl)
  obtain ⟨k, hk, e⟩ := selF_all h1
  have h4 := mostF_ge a b (2 ^ a.length) k hk
  rw [e, pickF_sub sel b 0 h2] at h4
  have h5 := mostF_le a b (sel.length : Int) (by omega) (fun j => by
    rcases pickF_cases (selF j a) b 0 with h | ⟨h, h'⟩
    · rw [h]; omega
    · have := sub_dist (selF_sub a j) h
      rw [h']
      omega) (2 ^ a.length)
  omega
theorem pickF_le [DecidableEq α] (a b : List α) (j : Nat) : -100 ≤ pickF (selF j a) b 0 ∧ pickF (selF j a) b 0 ≤ a.length := by
  rcases pickF_cases (selF j a) b 0 with h | ⟨h, h'⟩
  · rw [h]; omega
  · have := (selF_sub a j).length_le
    rw [h']
    omega
end
theorem dd_step {a b : List ByteArray} {x y : Nat} (hx : x ≤ a.length) (hy : y ≤ b.length) (h : ¬ (x = a.length ∧ y = b.length)) :
    dd a b x y = dd a b (x + (stepD a b x y).1) (y + (stepD a b x y).2) + (if stepD a b x y = (1, 1) then 0 else 1) := by
  have hin := stepD_in hx hy h
  by_cases h1 : x < a.length
  · by_cases h2 : y < b.length
    · rw [dd_in a b x y h1 h2]
      unfold stepD
      by_cases h3 : (txs a).getD x [] = (txs b).getD y []
      · rw [if_pos h3, if_pos ⟨h1, h2, h3⟩, if_pos rfl]
        rfl
      · rw [if_neg h3, if_neg (fun k => h3 k.2.2)]
        by_cases h4 : dd a b (x + 1) y ≤ dd a b x (y + 1)
        · rw [if_pos ⟨h1, .inr h4⟩, if_neg (by decide), Nat.min_eq_left h4]
          show 1 + dd a b (x + 1) y = dd a b (x + 1) y + 1
          omega
        · rw [if_neg (fun k => by rcases k.2 with k | k; omega; exact h4 k), if_neg (by decide), Nat.min_eq_right (by omega)]
          show 1 + dd a b x (y + 1) = dd a b x (y + 1) + 1
          omega
    · obtain rfl : y = b.length := by omega
      unfold stepD
      rw [if_neg (fun k => h2 k.2.1), if_pos ⟨h1, .inl rfl⟩, if_neg (by decide)]
      show _ = dd a b (x + 1) b.length + 1
      rw [dd_end2, dd_end2]
      omega
  · obtain rfl : x = a.length := by omega
    unfold stepD
    rw [if_neg (fun k => h1 k.1), if_neg (fun k => h1 k.1), if_neg (by decide)]
    show _ = dd a b a.length (y + 1) + 1
    rw [dd_end1, dd_end1]
    omega
theorem dd_last (a b : List ByteArray) : dd a b a.length b.length = 0 := by rw [dd_end1]; omega
end Go.Proofs.Ytmnpcignolofaaa
