/- How many steps from one list to another change something: its laws. -/
import Derived.Test.YtmnpcignolofaaaDoorProg
namespace Go.Proofs.YtmnpcignolofaaaDoor
set_option linter.unusedVariables false
set_option linter.unusedSimpArgs false
section
variable {α : Type}
def dist [DecidableEq α] : List α → List α → Nat
  | [], b => b.length
  | _ :: a, [] => a.length + 1
  | x :: a, y :: b => if x = y then dist a b else 1 + min (dist a (y :: b)) (dist (x :: a) b)
termination_by a b => a.length + b.length
decreasing_by all_goals simp <;> omega
theorem dist_nil [DecidableEq α] (b : List α) : dist [] b = b.length := by rw [dist]
theorem dist_nil2 [DecidableEq α] (a : List α) : dist a [] = a.length := by
  cases a with
  | nil => rw [dist]
  | cons x a => rw [dist]; rfl
theorem dist_same [DecidableEq α] (x : α) (a b : List α) : dist (x :: a) (x :: b) = dist a b := by rw [dist, if_pos rfl]
theorem dist_other [DecidableEq α] {x y : α} (h : x ≠ y) (a b : List α) : dist (x :: a) (y :: b) = 1 + min (dist a (y :: b)) (dist (x :: a) b) := by rw [dist, if_neg h]
theorem dist_symm [DecidableEq α] : ∀ (n : Nat) (a b : List α), a.length + b.length = n → dist a b = dist b a := by
  intro n
  induction n using Nat.strongRecOn with
  | _ n ih =>
    intro a b hn
    match a, b with
    | [], b => rw [dist_nil, dist_nil2]
    | x :: a, [] => rw [dist_nil, dist_nil2]
    | x :: a, y :: b =>
      simp only [List.length_cons] at hn
      by_cases h : x = y
      · subst h
        rw [dist_same, dist_same]
        exact ih _ (by omega) a b rfl
      · rw [dist_other h, dist_other (fun e => h e.symm), ih _ (by simp; omega) a (y :: b) rfl, ih _ (by simp; omega) (x :: a) b rfl, Nat.min_comm]
/-- Steps from a to b, n of which change something. -/
inductive Ed : List α → List α → Nat → Prop
  | nil : Ed [] [] 0
  | del {a b : List α} {n : Nat} (x : α) : Ed a b n → Ed (x :: a) b (n + 1)
  | ins {a b : List α} {n : Nat} (y : α) : Ed a b n → Ed a (y :: b) (n + 1)
  | keep {a b : List α} {n : Nat} (x : α) : Ed a b n → Ed (x :: a) (x :: b) n
theorem ed_nil : ∀ b : List α, Ed [] b b.length
  | [] => .nil
  | y :: b => .ins y (ed_nil b)
theorem ed_nil2 : ∀ a : List α, Ed a [] a.length
  | [] => .nil
  | x :: a => .del x (ed_nil2 a)
theorem ed_dist [DecidableEq α] : ∀ (n : Nat) (a b : List α), a.length + b.length = n → Ed a b (dist a b) := by
  intro n
  induction n using Nat.strongRecOn with
  | _ n ih =>
    intro a b hn
    match a, b with
    | [], b => rw [dist_nil]; exact ed_nil b
    | x :: a, [] => rw [dist_nil2]; exact ed_nil2 (x :: a)
    | x :: a, y :: b =>
      simp only [List.length_cons] at hn
      by_cases h : x = y
      · subst h
        rw [dist_same]
        exact .keep x (ih _ (by omega) a b rfl)
      · rw [dist_other h]
        rcases Nat.le_total (dist a (y :: b)) (dist (x :: a) b) with e | e
        · rw [Nat.min_eq_left e, Nat.add_comm]
          exact .del x (ih _ (by simp; omega) a (y :: b) rfl)
        · rw [Nat.min_eq_right e, Nat.add_comm]
          exact .ins y (ih _ (by simp; omega) (x :: a) b rfl)
theorem dist_step [DecidableEq α] : ∀ (n : Nat) (a b : List α), a.length + b.length = n → (∀ x, dist (x :: a) b ≤ dist a b + 1 ∧ dist a b ≤ dist (x :: a) b + 1) ∧ (∀ y, dist a (y :: b) ≤ dist a b + 1 ∧ dist a b ≤ dist a (y :: b) + 1) := by
  intro n
  induction n using Nat.strongRecOn with
  | _ n ih =>
    intro a b hn
    constructor
    · intro x
      match b with
      | [] => rw [dist_nil2, dist_nil2]; simp; omega
      | y :: b =>
        simp only [List.length_cons] at hn
        have h1 := (ih (a.length + b.length) (by omega) a b rfl).2 y
        by_cases h : x = y
        · subst h
          rw [dist_same]
          exact ⟨h1.2, h1.1⟩
        · rw [dist_other h]
          have h2 := (ih (a.length + b.length) (by omega) a b rfl).1 x
          have := Nat.min_le_left (dist a (y :: b)) (dist (x :: a) b)
          rcases Nat.le_total (dist a (y :: b)) (dist (x :: a) b) with e | e
          · rw [Nat.min_eq_left e]; omega
          · rw [Nat.min_eq_right e]; omega
    · intro y
      match a with
      | [] => rw [dist_nil, dist_nil]; simp; omega
      | x :: a =>
        simp only [List.length_cons] at hn
        have h1 := (ih (a.length + b.length) (by omega) a b rfl).1 x
        by_cases h : x = y
        · subst h
          rw [dist_same]
          exact ⟨h1.2, h1.1⟩
        · rw [dist_other h]
          have h2 := (ih (a.length + b.length) (by omega) a b rfl).2 y
          rcases Nat.le_total (dist a (y :: b)) (dist (x :: a) b) with e | e
          · rw [Nat.min_eq_left e]; omega
          · rw [Nat.min_eq_right e]; omega
theorem dist_le_ed [DecidableEq α] {a b : List α} {n : Nat} (h : Ed a b n) : dist a b ≤ n := by
  induction h with
  | nil => rw [dist_nil]; simp
  | del x _ ih => rename_i a b n _; have := ((dist_step _ a b rfl).1 x).1; omega
  | ins y _ ih => rename_i a b n _; have := ((dist_step _ a b rfl).2 y).1; omega
  | keep x _ ih => rw [dist_same]; exact ih
theorem ed_trans : ∀ (s : Nat) (a b c : List α) (n m : Nat), a.length + b.length + c.length = s → Ed a b n → Ed b c m → ∃ k, k ≤ n + m ∧ Ed a c k := by
  intro s
  induction s using Nat.strongRecOn with
  | _ s ih =>
    intro a b c n m hs h1 h2
    cases h1 with
    | nil => exact ⟨m, by omega, h2⟩
    | del x h1 =>
      rename_i a n
      simp only [List.length_cons] at hs
      obtain ⟨k, hk, h⟩ := ih _ (by omega) a b c n m rfl h1 h2
      exact ⟨k + 1, by omega, .del x h⟩
    | ins y h1 =>
      rename_i b n
      simp only [List.length_cons] at hs
      cases h2 with
      | del _ h2 =>
        rename_i m
        obtain ⟨k, hk, h⟩ := ih _ (by omega) a b c n m rfl h1 h2
        exact ⟨k, by omega, h⟩
      | ins z h2 =>
        rename_i c m
        simp only [List.length_cons] at hs
        obtain ⟨k, hk, h⟩ := ih _ (by simp; omega) a (y :: b) c (n + 1) m rfl (.ins y h1) h2
        exact ⟨k + 1, by omega, .ins z h⟩
      | keep _ h2 =>
        rename_i c
        simp only [List.length_cons] at hs
        obtain ⟨k, hk, h⟩ := ih _ (by omega) a b c n m rfl h1 h2
        exact ⟨k + 1, by omega, .ins y h⟩
    | keep x h1 =>
      rename_i a b
      simp only [List.length_cons] at hs
      cases h2 with
      | del _ h2 =>
        rename_i m
        obtain ⟨k, hk, h⟩ := ih _ (by omega) a b c n m rfl h1 h2
        exact ⟨k + 1, by omega, .del x h⟩
      | ins z h2 =>
        rename_i c m
        simp only [List.length_cons] at hs
        obtain ⟨k, hk, h⟩ := ih _ (by simp; omega) (x :: a) (x :: b) c n m rfl (.keep x h1) h2
        exact ⟨k + 1, by omega, .ins z h⟩
      | keep _ h2 =>
        rename_i c
        simp only [List.length_cons] at hs
        obtain ⟨k, hk, h⟩ := ih _ (by omega) a b c n m rfl h1 h2
        exact ⟨k, by omega, .keep x h⟩
theorem dist_tri [DecidableEq α] (a b c : List α) : dist a c ≤ dist a b + dist b c := by
  obtain ⟨k, hk, h⟩ := ed_trans _ a b c _ _ rfl (ed_dist _ a b rfl) (ed_dist _ b c rfl)
  have := dist_le_ed h
  omega
theorem dist_self [DecidableEq α] : ∀ a : List α, dist a a = 0
  | [] => by rw [dist_nil]; rfl
  | x :: a => by rw [dist_same]; exact dist_self a
theorem dist_zero [DecidableEq α] : ∀ (a b : List α), dist a b = 0 → a = b
  | [], b, h => by rw [dist_nil] at h; exact (List.eq_nil_of_length_eq_zero h).symm
  | x :: a, [], h => by rw [dist_nil2] at h; simp at h
  | x :: a, y :: b, h => by
    by_cases e : x = y
    · subst e
      rw [dist_same] at h
      rw [dist_zero a b h]
    · rw [dist_other e] at h
      omega
theorem dist_sum [DecidableEq α] (a b : List α) : dist a b ≤ a.length + b.length := by
  obtain ⟨k, hk, h⟩ := ed_trans _ a [] b _ _ rfl (ed_nil2 a) (ed_nil b)
  have := dist_le_ed h
  omega
end
end Go.Proofs.YtmnpcignolofaaaDoor
