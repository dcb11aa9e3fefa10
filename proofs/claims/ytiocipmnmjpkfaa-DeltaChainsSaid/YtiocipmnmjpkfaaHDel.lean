/- Deltas, in plain Lean: what an instruction names, what a delta makes. -/
import Derived.Test.YtiocipmnmjpkfaaHNumRead
namespace Go.Proofs.Ytiocipmnmjpkfaa
set_option linter.unusedVariables false
set_option linter.unusedSimpArgs false
open Go.RowKit Go.Proofs.YtiocipmnmjpkfaaW.PrintWords Go.Proofs.YtiocipmnmjpkfaaW.PrintMore

/-- What the first i bits of a copy name: the numbers (0 where a bit is not set), and how many bytes tell them. -/
def pickV (c : Int) (d : List Int) : Nat → Option (List Int × Nat)
  | 0 => some ([], 0)
  | i + 1 => (pickV c d i).bind fun p => if c / 2 ^ i % 2 = 0 then some (p.1 ++ [0], p.2) else if p.2 < d.length then some (p.1 ++ [d.getD p.2 0], p.2 + 1) else none
/-- A number whose bytes come the lowest first. -/
def leV : List Int → Int
  | [] => 0
  | x :: r => x + 256 * leV r
def atV (vs : List Int) : Int := leV (vs.take 4)
def cntV (vs : List Int) : Int := if leV (vs.drop 4) = 0 then 65536 else leV (vs.drop 4)
theorem pickV_zero (c : Int) (d : List Int) (i : Nat) {vs : List Int} {u : Nat} (h : pickV c d i = some (vs, u)) (h0 : c / 2 ^ i % 2 = 0) : pickV c d (i + 1) = some (vs ++ [0], u) := by
  simp [pickV, h, h0]
theorem pickV_one (c : Int) (d : List Int) (i : Nat) {vs : List Int} {u : Nat} (h : pickV c d i = some (vs, u)) (h0 : ¬ c / 2 ^ i % 2 = 0) (hu : u < d.length) : pickV c d (i + 1) = some (vs ++ [d.getD u 0], u + 1) := by
  simp [pickV, h, h0, hu]
theorem pickV_fail (c : Int) (d : List Int) (i : Nat) {vs : List Int} {u : Nat} (h : pickV c d i = some (vs, u)) (h0 : ¬ c / 2 ^ i % 2 = 0) (hu : ¬ u < d.length) : pickV c d (i + 1) = none := by
  simp [pickV, h, h0, hu]
theorem pickV_none (c : Int) (d : List Int) (i : Nat) (h : pickV c d i = none) : pickV c d (i + 1) = none := by simp [pickV, h]
theorem pickV_later (c : Int) (d : List Int) (i : Nat) (h : pickV c d i = none) : ∀ j, i ≤ j → pickV c d j = none := by
  intro j hj
  induction j with
  | zero => have : i = 0 := by omega
            subst this; exact h
  | succ j ih =>
    rcases Nat.lt_or_ge i (j + 1) with h1 | h1
    · exact pickV_none c d j (ih (by omega))
    · have : i = j + 1 := by omega
      subst this; exact h
theorem pickV_facts (c : Int) (d : List Int) (hd : ∀ x ∈ d, 0 ≤ x ∧ x < 256) : ∀ (i : Nat) (vs : List Int) (u : Nat), pickV c d i = some (vs, u) → vs.length = i ∧ u ≤ i ∧ u ≤ d.length ∧ ∀ x ∈ vs, 0 ≤ x ∧ x < 256 := by
  intro i
  induction i with
  | zero =>
    intro vs u h
    simp [pickV] at h
    obtain ⟨rfl, rfl⟩ := h
    simp
  | succ i ih =>
    intro vs u h
    cases hp : pickV c d i with
    | none => rw [pickV_none c d i hp] at h; cases h
    | some p =>
      obtain ⟨vs0, u0⟩ := p
      obtain ⟨h1, h2, h3, h4⟩ := ih vs0 u0 hp
      by_cases h0 : c / 2 ^ i % 2 = 0
      · rw [pickV_zero c d i hp h0] at h
        simp at h
        obtain ⟨rfl, rfl⟩ := h
        refine ⟨by simp [h1], by omega, h3, ?_⟩
        intro x hx
        rcases List.mem_append.1 hx with hx | hx
        · exact h4 x hx
        · simp at hx; omega
      · by_cases hu : u0 < d.length
        · rw [pickV_one c d i hp h0 hu] at h
          simp only [Option.some.injEq, Prod.mk.injEq] at h
          obtain ⟨rfl, rfl⟩ := h
          refine ⟨by simp [h1], by omega, by omega, ?_⟩
          intro x hx
          rcases List.mem_append.1 hx with hx | hx
          · exact h4 x hx
          · rw [List.mem_singleton] at hx
            rw [hx, show d.getD u0 0 = d[u0] from by simp [hu]]
            exact hd _ (List.getElem_mem hu)
        · rw [pickV_fail c d i hp h0 hu] at h; cases h
theorem leV_bound : ∀ (l : List Int), (∀ x ∈ l, 0 ≤ x ∧ x < 256) → 0 ≤ leV l ∧ leV l < 256 ^ l.length := by
  intro l
  induction l with
  | nil => intro _; simp [leV]
  | cons x r ih =>
    intro h
    have h1 := ih (fun y hy => h y (List.mem_cons_of_mem _ hy))
    have h2 := h x List.mem_cons_self
    simp only [leV, List.length_cons, Int.pow_succ]
    omega
theorem leV_snoc : ∀ (l : List Int) (x : Int), leV (l ++ [x]) = leV l + x * 256 ^ l.length := by
  intro l
  induction l with
  | nil => intro x; simp [leV]
  | cons y r ih =>
    intro x
    simp only [List.cons_append, leV, ih, List.length_cons, Int.pow_succ]
    rw [Int.mul_add, ← Int.mul_assoc, Int.mul_comm 256 x, Int.mul_assoc x 256, Int.mul_comm 256 (256 ^ r.length)]
    omega
theorem cntV_pos (vs : List Int) (h : ∀ x ∈ vs, 0 ≤ x ∧ x < 256) : 0 < cntV vs := by
  have := (leV_bound (vs.drop 4) (fun x hx => h x (List.mem_of_mem_drop hx))).1
  unfold cntV
  split <;> omega

/-- An instruction: the error, the piece that it puts, what stands behind it. -/
def oneF (base : List Int) (c : Int) (d : List Int) : Int × List Int × List Int :=
  if c = 0 then (4, [], d)
  else if c < 128 then (if d.length < c.toNat then (5, [], d) else (0, d.take c.toNat, d.drop c.toNat))
  else match pickV c d 7 with
    | none => (5, [], d)
    | some (vs, u) => if (base.length : Int) < atV vs + cntV vs then (4, [], d) else (0, (base.drop (atV vs).toNat).take (cntV vs).toNat, d.drop u)
theorem oneF_rest (base : List Int) (c : Int) (d : List Int) : (oneF base c d).2.2.length ≤ d.length := by
  unfold oneF
  split
  · simp
  · split
    · split <;> simp
    · split
      · simp
      · split <;> simp
/-- Instructions one after the other: the error, and what comes out. -/
def runF (base : List Int) (size : Nat) : Nat → List Int → List Int → Int × List Int
  | 0, out, _ => (4, [])
  | _ + 1, out, [] => if out.length = size then (0, out) else (4, [])
  | k + 1, out, c :: d => if (oneF base c d).1 = 0 then (if size < out.length + (oneF base c d).2.1.length then (4, []) else runF base size k (out ++ (oneF base c d).2.1) (oneF base c d).2.2) else ((oneF base c d).1, [])
theorem runF_nil (base : List Int) (size k : Nat) (out : List Int) : runF base size (k + 1) out [] = if out.length = size then (0, out) else (4, []) := rfl
theorem runF_cons (base : List Int) (size k : Nat) (out : List Int) (c : Int) (d : List Int) : runF base size (k + 1) out (c :: d) = if (oneF base c d).1 = 0 then (if size < out.length + (oneF base c d).2.1.length then (4, []) else runF base size k (out ++ (oneF base c d).2.1) (oneF base c d).2.2) else ((oneF base c d).1, []) := rfl
/-- A delta applied: the error, and what comes out. -/
def applyF (base d : List Int) (most : Int) : Int × List Int :=
  if most < 0 ∨ 1048576 < most then (1, [])
  else if (sizeF d 0).2.2 ≠ 0 then ((sizeF d 0).2.2, [])
  else if (sizeF d 0).1 ≠ (base.length : Int) then (4, [])
  else if (sizeF d (sizeF d 0).2.1).2.2 ≠ 0 then ((sizeF d (sizeF d 0).2.1).2.2, [])
  else if most < (sizeF d (sizeF d 0).2.1).1 then (10, [])
  else runF base (sizeF d (sizeF d 0).2.1).1.toNat ((d.drop (sizeF d (sizeF d 0).2.1).2.1.toNat).length + 1) [] (d.drop (sizeF d (sizeF d 0).2.1).2.1.toNat)
end Go.Proofs.Ytiocipmnmjpkfaa
