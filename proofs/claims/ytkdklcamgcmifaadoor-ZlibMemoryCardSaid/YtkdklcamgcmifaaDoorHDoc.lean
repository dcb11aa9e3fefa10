/- What a match is: the longest one at a place, the nearest of several; the program's chain of equal triples finds it. -/
import Derived.Test.YtkdklcamgcmifaaDoorHNote
namespace Go.Proofs.YtkdklcamgcmifaaDoor
set_option linter.unusedVariables false
set_option linter.unusedSimpArgs false
/-- At the places i and j, n bytes and no more (at most 258) are alike. -/
structure IsSame (l : List Int) (i j n : Nat) : Prop where
  le : n ≤ 258
  eq : ∀ m, m < n → i + m < l.length ∧ l.getD (i + m) 0 = l.getD (j + m) 0
  end_ : ¬ (n < 258 ∧ i + n < l.length ∧ l.getD (i + n) 0 = l.getD (j + n) 0)
theorem IsSame.unique {l : List Int} {i j n m : Nat} (h : IsSame l i j n) (k : IsSame l i j m) : n = m := by
  rcases Nat.lt_trichotomy n m with e | e | e
  · exact absurd ⟨by have := k.le; omega, k.eq n e⟩ h.end_
  · exact e
  · exact absurd ⟨by have := h.le; omega, h.eq m e⟩ k.end_
def sameF (l : List Int) (i j : Nat) : Nat → Nat → Nat
  | 0, n => n
  | k + 1, n => if n < 258 ∧ i + n < l.length ∧ l.getD (i + n) 0 = l.getD (j + n) 0 then sameF l i j k (n + 1) else n
def sameN (l : List Int) (i j : Nat) : Nat := sameF l i j 258 0
theorem sameF_is (l : List Int) (i j : Nat) : ∀ k n, 258 ≤ n + k → n ≤ 258 → (∀ m, m < n → i + m < l.length ∧ l.getD (i + m) 0 = l.getD (j + m) 0) → IsSame l i j (sameF l i j k n) := by
  intro k
  induction k with
  | zero =>
    intro n h1 h2 h3
    show IsSame l i j n
    exact ⟨h2, h3, fun h => by have := h.1; omega⟩
  | succ k ih =>
    intro n h1 h2 h3
    simp only [sameF]
    split
    · rename_i hc
      refine ih (n + 1) (by omega) (by omega) fun m hm => ?_
      rcases Nat.lt_or_ge m n with e | e
      · exact h3 m e
      · have : m = n := by omega
        subst this
        exact hc.2
    · rename_i hc
      exact ⟨h2, h3, hc⟩
theorem sameN_is (l : List Int) (i j : Nat) : IsSame l i j (sameN l i j) := sameF_is l i j 258 0 (by omega) (by omega) (fun m h => absurd h (by omega))
/-- The match at i among the places below j, a: what is known. -/
def docM (l : List Int) (i : Nat) : Nat → Nat × Nat → Nat × Nat
  | 0, a => a
  | j + 1, a => docM l i j (if i ≤ j + 32768 ∧ 3 ≤ sameN l i j ∧ a.1 < sameN l i j then (sameN l i j, i - j) else a)
def mat (l : List Int) (i : Nat) : Nat × Nat := docM l i i (0, 0)
theorem docM_skip (l : List Int) (i : Nat) (a : Nat × Nat) (q : Nat) : ∀ j, q ≤ j → (∀ r, q ≤ r → r < j → ¬ (i ≤ r + 32768 ∧ 3 ≤ sameN l i r ∧ a.1 < sameN l i r)) → docM l i j a = docM l i q a := by
  intro j
  induction j with
  | zero => intro h _; rw [show q = 0 by omega]
  | succ j ih =>
    intro h hr
    rcases Nat.lt_or_ge j q with e | e
    · rw [show q = j + 1 by omega]
    · rw [docM, if_neg (hr j e (by omega))]
      exact ih e fun r h1 h2 => hr r h1 (by omega)
theorem docM_done (l : List Int) (i : Nat) (a : Nat × Nat) (j : Nat) (h : ∀ r, r < j → ¬ (i ≤ r + 32768 ∧ 3 ≤ sameN l i r ∧ a.1 < sameN l i r)) : docM l i j a = a :=
  docM_skip l i a 0 j (by omega) fun r _ h2 => h r h2
theorem docM_bounds (l : List Int) (i : Nat) : ∀ j a, j ≤ i → (a.1 = 0 ∨ (3 ≤ a.1 ∧ a.1 ≤ 258 ∧ i + a.1 ≤ l.length ∧ 1 ≤ a.2 ∧ a.2 ≤ 32768)) → ((docM l i j a).1 = 0 ∨ (3 ≤ (docM l i j a).1 ∧ (docM l i j a).1 ≤ 258 ∧ i + (docM l i j a).1 ≤ l.length ∧ 1 ≤ (docM l i j a).2 ∧ (docM l i j a).2 ≤ 32768)) := by
  intro j
  induction j with
  | zero => intro a _ h; exact h
  | succ j ih =>
    intro a hj h
    rw [docM]
    refine ih _ (by omega) ?_
    split
    · rename_i hc
      have hs := sameN_is l i j
      have h1 := (hs.eq (sameN l i j - 1) (by omega)).1
      exact .inr ⟨hc.2.1, hs.le, by show i + sameN l i j ≤ _; omega, by show 1 ≤ i - j; omega, by show i - j ≤ _; omega⟩
    · exact h
theorem mat_bounds (l : List Int) (i : Nat) : (mat l i).1 = 0 ∨ (3 ≤ (mat l i).1 ∧ (mat l i).1 ≤ 258 ∧ i + (mat l i).1 ≤ l.length ∧ 1 ≤ (mat l i).2 ∧ (mat l i).2 ≤ 32768) := docM_bounds l i i (0, 0) (Nat.le_refl _) (.inl rfl)
theorem lastAt_some (l : List Int) (k : Int) : ∀ i q, lastAt l i k = some q → q < i ∧ q + 3 ≤ l.length ∧ keyN l q = k ∧ ∀ r, q < r → r < i → r + 3 ≤ l.length → keyN l r ≠ k := by
  intro i
  induction i with
  | zero => intro q h; cases h
  | succ i ih =>
    intro q h
    simp only [lastAt] at h
    split at h
    · rename_i hc
      cases h
      exact ⟨by omega, hc.1, hc.2, fun r h1 h2 => by omega⟩
    · rename_i hc
      obtain ⟨h1, h2, h3, h4⟩ := ih q h
      refine ⟨by omega, h2, h3, fun r h5 h6 h7 => ?_⟩
      rcases Nat.lt_or_ge r i with e | e
      · exact h4 r h5 e h7
      · have : r = i := by omega
        subst this
        exact fun hk => hc ⟨h7, hk⟩
theorem lastAt_none (l : List Int) (k : Int) : ∀ i, lastAt l i k = none → ∀ r, r < i → r + 3 ≤ l.length → keyN l r ≠ k := by
  intro i
  induction i with
  | zero => intro _ r h; omega
  | succ i ih =>
    intro h r h1 h2
    simp only [lastAt] at h
    split at h
    · cases h
    · rename_i hc
      rcases Nat.lt_or_ge r i with e | e
      · exact ih h r e h2
      · have : r = i := by omega
        subst this
        exact fun hk => hc ⟨h2, hk⟩
theorem bytes_getD {l : List Int} (hby : ∀ x ∈ l, 0 ≤ x ∧ x < 256) (j : Nat) : 0 ≤ l.getD j 0 ∧ l.getD j 0 < 256 := by
  rcases Nat.lt_or_ge j l.length with h | h
  · have := hby _ (List.getElem_mem h)
    simpa [List.getD_eq_getElem?_getD, List.getElem?_eq_getElem h] using this
  · simp [List.getD_eq_getElem?_getD, List.getElem?_eq_none h]
theorem key_same {l : List Int} {i j : Nat} (h : 3 ≤ sameN l i j) : keyN l j = keyN l i := by
  have hs := sameN_is l i j
  have h0 := (hs.eq 0 (by omega)).2
  have h1 := (hs.eq 1 (by omega)).2
  have h2 := (hs.eq 2 (by omega)).2
  rw [Nat.add_zero, Nat.add_zero] at h0
  simp only [keyN, h0, h1, h2]
theorem same_key {l : List Int} (hby : ∀ x ∈ l, 0 ≤ x ∧ x < 256) {i j : Nat} (hi : i + 3 ≤ l.length) (h : keyN l j = keyN l i) : ∀ m, m < 3 → i + m < l.length ∧ l.getD (i + m) 0 = l.getD (j + m) 0 := by
  intro m hm
  refine ⟨by omega, ?_⟩
  have a0 := bytes_getD hby i
  have a1 := bytes_getD hby (i + 1)
  have a2 := bytes_getD hby (i + 2)
  have b0 := bytes_getD hby j
  have b1 := bytes_getD hby (j + 1)
  have b2 := bytes_getD hby (j + 2)
  unfold keyN at h
  have h0 : l.getD i 0 = l.getD j 0 := by omega
  have h1 : l.getD (i + 1) 0 = l.getD (j + 1) 0 := by omega
  have h2 : l.getD (i + 2) 0 = l.getD (j + 2) 0 := by omega
  rcases m with _ | _ | _ | m
  · exact h0
  · exact h1
  · exact h2
  · omega
/-- The chain at v, with b and f as what is known: what is still to come makes the match. -/
def Ch (l : List Int) (i : Nat) (v : Int) (b f : Nat) : Prop := (v = -1 ∧ (b, f) = mat l i) ∨ ∃ q : Nat, v = (q : Int) ∧ q < i ∧ q + 3 ≤ l.length ∧ keyN l q = keyN l i ∧ docM l i (q + 1) (b, f) = mat l i
theorem ch_start_none {l : List Int} {i : Nat} (h : lastAt l i (keyN l i) = none) : mat l i = (0, 0) := by
  refine docM_done l i (0, 0) i fun r hr hc => ?_
  have hs := sameN_is l i r
  have h2 := (hs.eq 2 (by omega)).1
  exact lastAt_none l _ i h r hr (by omega) (key_same hc.2.1)
theorem ch_short {l : List Int} {i : Nat} (h : l.length < i + 3) : mat l i = (0, 0) := by
  refine docM_done l i (0, 0) i fun r hr hc => ?_
  have hs := sameN_is l i r
  have h2 := (hs.eq 2 (by omega)).1
  omega
theorem ch_start {l : List Int} {i q : Nat} (hi : i + 3 ≤ l.length) (h : lastAt l i (keyN l i) = some q) : Ch l i (q : Int) 0 0 := by
  obtain ⟨h1, h2, h3, h4⟩ := lastAt_some l _ i q h
  refine .inr ⟨q, rfl, h1, h2, h3, (docM_skip l i (0, 0) (q + 1) i (by omega) fun r hr hri hc => ?_).symm⟩
  exact h4 r (by omega) hri (by omega) (key_same hc.2.1)
theorem ch_far {l : List Int} {i q b f : Nat} (h : Ch l i (q : Int) b f) (hw : q + 32768 < i) : (b, f) = mat l i := by
  rcases h with ⟨h, _⟩ | ⟨q', h, h1, h2, h3, h4⟩
  · omega
  · have : q' = q := by omega
    subst this
    rw [← h4]
    exact (docM_done l i (b, f) (q' + 1) fun r hr hc => by omega).symm
theorem ch_full {l : List Int} {i b f : Nat} {v : Int} (h : Ch l i v b f) (hb : 258 ≤ b) : (b, f) = mat l i := by
  rcases h with ⟨_, h⟩ | ⟨q', h, h1, h2, h3, h4⟩
  · exact h
  · rw [← h4]
    refine (docM_done l i (b, f) (q' + 1) fun r hr hc => ?_).symm
    have := (sameN_is l i r).le
    have := hc.2.2
    simp only at this
    omega
theorem ch_neg {l : List Int} {i b f : Nat} (h : Ch l i (-1) b f) : (b, f) = mat l i := by
  rcases h with ⟨_, h⟩ | ⟨q', h, h1, h2, h3, h4⟩
  · exact h
  · omega
/-- One step: at q, alike in n bytes. -/
theorem ch_step {l : List Int} (hby : ∀ x ∈ l, 0 ≤ x ∧ x < 256) {i q b f n b' f' : Nat} (hi : i + 3 ≤ l.length) (h : Ch l i (q : Int) b f) (hw : i ≤ q + 32768) (hn : IsSame l i q n) (hb : (b', f') = if b < n then (n, i - q) else (b, f)) :
    (i + n = l.length → (b', f') = mat l i) ∧ Ch l i (prevI l q) b' f' := by
  rcases h with ⟨h, _⟩ | ⟨q', h, h1, h2, h3, h4⟩
  · omega
  · have : q' = q := by omega
    subst this
    have hn' : sameN l i q' = n := (sameN_is l i q').unique hn
    have h3n : 3 ≤ n := by
      rcases Nat.lt_or_ge n 3 with e | e
      · exact absurd ⟨by omega, same_key hby hi h3 n e⟩ hn.end_
      · exact e
    have hd : docM l i q' (b', f') = mat l i := by
      rw [← h4, docM, hn', hb]
      congr 1
      by_cases hc : b < n
      · rw [if_pos hc, if_pos ⟨hw, h3n, hc⟩]
      · rw [if_neg hc, if_neg (fun h => hc h.2.2)]
    refine ⟨fun he => ?_, ?_⟩
    · rw [← hd]
      refine (docM_done l i (b', f') q' fun r hr hc => ?_).symm
      have hs := sameN_is l i r
      have h5 := (hs.eq (sameN l i r - 1) (by omega)).1
      have h6 : n ≤ b' := by
        by_cases hc : b < n
        · rw [if_pos hc] at hb; cases hb; exact Nat.le_refl _
        · rw [if_neg hc] at hb; cases hb; omega
      have := hc.2.2
      simp only at this
      omega
    · unfold prevI
      cases hl : lastAt l q' (keyN l q') with
      | none =>
        refine .inl ⟨rfl, ?_⟩
        rw [← hd]
        refine (docM_done l i (b', f') q' fun r hr hc => ?_).symm
        exact lastAt_none l _ q' hl r hr (by omega) ((key_same hc.2.1).trans h3.symm)
      | some p =>
        obtain ⟨p1, p2, p3, p4⟩ := lastAt_some l _ q' p hl
        refine .inr ⟨p, rfl, by omega, p2, p3.trans h3, ?_⟩
        rw [← hd]
        exact (docM_skip l i (b', f') (p + 1) q' (by omega) fun r hr hri hc => p4 r (by omega) hri (by omega) ((key_same hc.2.1).trans h3.symm)).symm
theorem prevI_cases (l : List Int) (j : Nat) : prevI l j = -1 ∨ ∃ q : Nat, prevI l j = (q : Int) ∧ q < j := by
  unfold prevI
  cases h : lastAt l j (keyN l j) with
  | none => exact .inl rfl
  | some q => exact .inr ⟨q, rfl, (lastAt_some l _ j q h).1⟩
theorem Ch.cases {l : List Int} {i b f : Nat} {v : Int} (h : Ch l i v b f) : v = -1 ∨ ∃ q : Nat, v = (q : Int) ∧ q < i ∧ q + 3 ≤ l.length := by
  rcases h with ⟨h, _⟩ | ⟨q, h, h1, h2, _⟩
  · exact .inl h
  · exact .inr ⟨q, h, h1, h2⟩
end Go.Proofs.YtkdklcamgcmifaaDoor
