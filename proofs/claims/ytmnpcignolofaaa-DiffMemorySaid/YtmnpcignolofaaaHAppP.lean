/- diff.Apply, plain: hunks in form (okH) and what they make (app); the hunks of two lists are in form and make the one of the other. -/
import Derived.Test.YtmnpcignolofaaaHAppQ
import Derived.Test.YtmnpcignolofaaaHHunk
namespace Go.Proofs.Ytmnpcignolofaaa
set_option linter.unusedVariables false
set_option linter.unusedSimpArgs false
theorem stay_lists {a b : List ByteArray} {x y : Nat} (hx : x < a.length) (hy : y < b.length) (he : (txs a).getD x [] = (txs b).getD y []) : a.take (x + 1) ++ b.drop (y + 1) = a.take x ++ b.drop y := by
  have e1 : (txs a).getD x [] = tx a[x] := by simp [txs, List.getD_eq_getElem?_getD, List.getElem?_eq_getElem hx]
  have e2 : (txs b).getD y [] = tx b[y] := by simp [txs, List.getD_eq_getElem?_getD, List.getElem?_eq_getElem hy]
  rw [e1, e2] at he
  have e3 : a[x] = b[y] := by
    have h : a[x].data.toList = b[y].data.toList := he
    have h2 := Array.toList_inj.1 h
    cases ha : a[x]
    cases hb : b[y]
    rw [ha, hb] at h2
    simp only at h2
    rw [h2]
  rw [List.take_succ_eq_append_getElem hx, List.drop_eq_getElem_cons hy, e3]
  simp
theorem mid_lists {a b : List ByteArray} {f : Pn} {x y : Nat} (hx : x ≤ a.length) (hy : y ≤ b.length) (h1 : f.1 ≤ x) (h2 : f.2 ≤ y) : rep1 b (f, (x, y)) (a.take x ++ b.drop y) = a.take f.1 ++ b.drop f.2 := by
  unfold rep1
  simp only
  have lt : (a.take x).length = x := by rw [List.length_take]; omega
  rw [List.drop_left' lt, List.take_append_of_le_length (by omega), List.take_take, show min f.1 x = f.1 by omega, List.append_assoc]
  congr 1
  have e : b.drop y = (b.drop f.2).drop (y - f.2) := by rw [List.drop_drop]; congr 1; omega
  rw [e, List.take_append_drop]
/-- The step's cases. -/
theorem stepD_cases {a b : List ByteArray} {x y : Nat} (hx : x ≤ a.length) (hy : y ≤ b.length) (h : ¬ (x = a.length ∧ y = b.length)) :
    (stepD a b x y = (1, 1) ∧ x < a.length ∧ y < b.length ∧ (txs a).getD x [] = (txs b).getD y []) ∨ (stepD a b x y = (1, 0) ∧ x + 1 ≤ a.length) ∨ (stepD a b x y = (0, 1) ∧ y + 1 ≤ b.length) := by
  have hin := stepD_in hx hy h
  unfold stepD at hin ⊢
  by_cases h1 : x < a.length ∧ y < b.length ∧ (txs a).getD x [] = (txs b).getD y []
  · rw [if_pos h1]
    exact .inl ⟨rfl, h1⟩
  · rw [if_neg h1] at hin ⊢
    by_cases h2 : x < a.length ∧ (y = b.length ∨ dd a b (x + 1) y ≤ dd a b x (y + 1))
    · rw [if_pos h2] at hin ⊢
      exact .inr (.inl ⟨rfl, hin.1⟩)
    · rw [if_neg h2] at hin ⊢
      exact .inr (.inr ⟨rfl, hin.2.1⟩)
theorem hk_stay_none (x y : Nat) (r : List Pn) : hk none (x, y) ((x + 1, y + 1) :: r) = hk none (x + 1, y + 1) r := by rw [hk.eq_def]; dsimp only; rw [if_pos rfl]
theorem hk_stay_some (f : Pn) (x y : Nat) (r : List Pn) : hk (some f) (x, y) ((x + 1, y + 1) :: r) = (f, (x, y)) :: hk none (x + 1, y + 1) r := by rw [hk.eq_def]; dsimp only; rw [if_pos rfl]
theorem hk_go (o : Option Pn) (p q : Pn) (r : List Pn) (h : q ≠ (p.1 + 1, p.2 + 1)) : hk o p (q :: r) = hk (some (o.getD p)) q r := by rw [hk.eq_def]; dsimp only; rw [if_neg h]
theorem hk_ok (a b : List ByteArray) : ∀ (k x y : Nat), a.length + b.length - (x + y) = k → x ≤ a.length → y ≤ b.length →
    (∀ (c : Nat) (l : Pn), l.1 + c ≤ x → l.2 + c ≤ y → x + l.2 = y + l.1 → okH a.length b.length c l (hk none (x, y) (wayW a b x y))) ∧
    (∀ (f : Pn) (c : Nat) (l : Pn), f.1 ≤ x → f.2 ≤ y → f.1 + f.2 < x + y → l.1 + c ≤ f.1 → l.2 + c ≤ f.2 → f.1 + l.2 = f.2 + l.1 → okH a.length b.length c l (hk (some f) (x, y) (wayW a b x y))) := by
  intro k
  induction k using Nat.strongRecOn with
  | _ k ih =>
    intro x y hk0 hx hy
    by_cases h : x = a.length ∧ y = b.length
    · obtain ⟨rfl, rfl⟩ := h
      rw [wayW_end]
      refine ⟨fun c l h1 h2 h3 => ?_, fun f c l h1 h2 h3 h4 h5 h6 => ?_⟩
      · show a.length + l.2 = b.length + l.1
        exact h3
      · show okH _ _ _ _ [(f, (a.length, b.length))]
        exact ⟨h1, h2, Nat.le_refl _, Nat.le_refl _, h3, h4, h5, h6, rfl.trans (by simp only; omega)⟩
    · rw [wayW_go hx hy h]
      rcases stepD_cases hx hy h with ⟨e, hx1, hy1, _⟩ | ⟨e, hx1⟩ | ⟨e, hy1⟩
      · rw [e]
        simp only
        have I := ih _ (by omega) (x + 1) (y + 1) rfl (by omega) (by omega)
        refine ⟨fun c l h1 h2 h3 => ?_, fun f c l h1 h2 h3 h4 h5 h6 => ?_⟩
        · rw [hk_stay_none]
          exact I.1 c l (by omega) (by omega) (by omega)
        · rw [hk_stay_some]
          exact ⟨h1, h2, hx, hy, h3, h4, h5, h6, I.1 1 (x, y) (Nat.le_refl _) (Nat.le_refl _) (by simp only; omega)⟩
      · rw [e]
        simp only
        have I := ih _ (by omega) (x + 1) (y + 0) rfl (by omega) (by omega)
        have hq : ((x + 1, y + 0) : Pn) ≠ ((x, y).1 + 1, (x, y).2 + 1) := by simp
        refine ⟨fun c l h1 h2 h3 => ?_, fun f c l h1 h2 h3 h4 h5 h6 => ?_⟩
        · rw [hk_go _ _ _ _ hq]
          exact I.2 (x, y) c l (by simp only; omega) (by simp only; omega) (by simp only; omega) h1 h2 h3
        · rw [hk_go _ _ _ _ hq]
          exact I.2 f c l (by omega) (by omega) (by omega) h4 h5 h6
      · rw [e]
        simp only
        have I := ih _ (by omega) (x + 0) (y + 1) rfl (by omega) (by omega)
        have hq : ((x + 0, y + 1) : Pn) ≠ ((x, y).1 + 1, (x, y).2 + 1) := by simp
        refine ⟨fun c l h1 h2 h3 => ?_, fun f c l h1 h2 h3 h4 h5 h6 => ?_⟩
        · rw [hk_go _ _ _ _ hq]
          exact I.2 (x, y) c l (by simp only; omega) (by simp only; omega) (by simp only; omega) h1 h2 h3
        · rw [hk_go _ _ _ _ hq]
          exact I.2 f c l (by omega) (by omega) (by omega) h4 h5 h6
theorem hk_app (a b : List ByteArray) : ∀ (k x y : Nat), a.length + b.length - (x + y) = k → x ≤ a.length → y ≤ b.length →
    app a b (hk none (x, y) (wayW a b x y)) = a.take x ++ b.drop y ∧
    (∀ (f : Pn), f.1 ≤ x → f.2 ≤ y → app a b (hk (some f) (x, y) (wayW a b x y)) = a.take f.1 ++ b.drop f.2) := by
  intro k
  induction k using Nat.strongRecOn with
  | _ k ih =>
    intro x y hk0 hx hy
    by_cases h : x = a.length ∧ y = b.length
    · obtain ⟨rfl, rfl⟩ := h
      rw [wayW_end]
      refine ⟨?_, fun f h1 h2 => ?_⟩
      · rw [List.take_of_length_le (Nat.le_refl _), List.drop_of_length_le (Nat.le_refl _), List.append_nil]
        rfl
      · show rep1 b (f, (a.length, b.length)) a = _
        have hm := mid_lists (a := a) (b := b) (f := f) (Nat.le_refl _) (Nat.le_refl _) h1 h2
        rwa [List.take_of_length_le (Nat.le_refl a.length), List.drop_of_length_le (Nat.le_refl b.length), List.append_nil] at hm
    · rw [wayW_go hx hy h]
      rcases stepD_cases hx hy h with ⟨e, hx1, hy1, he⟩ | ⟨e, hx1⟩ | ⟨e, hy1⟩
      · rw [e]
        simp only
        have I := ih _ (by omega) (x + 1) (y + 1) rfl (by omega) (by omega)
        refine ⟨?_, fun f h1 h2 => ?_⟩
        · rw [hk_stay_none, I.1]
          exact stay_lists hx1 hy1 he
        · rw [hk_stay_some]
          show rep1 b (f, (x, y)) (app a b _) = _
          rw [I.1, stay_lists hx1 hy1 he]
          exact mid_lists hx hy h1 h2
      · rw [e]
        simp only
        have I := ih _ (by omega) (x + 1) (y + 0) rfl (by omega) (by omega)
        have hq : ((x + 1, y + 0) : Pn) ≠ ((x, y).1 + 1, (x, y).2 + 1) := by simp
        refine ⟨?_, fun f h1 h2 => ?_⟩
        · rw [hk_go _ _ _ _ hq]
          exact I.2 (x, y) (by simp only; omega) (by simp only; omega)
        · rw [hk_go _ _ _ _ hq]
          exact I.2 f (by omega) (by omega)
      · rw [e]
        simp only
        have I := ih _ (by omega) (x + 0) (y + 1) rfl (by omega) (by omega)
        have hq : ((x + 0, y + 1) : Pn) ≠ ((x, y).1 + 1, (x, y).2 + 1) := by simp
        refine ⟨?_, fun f h1 h2 => ?_⟩
        · rw [hk_go _ _ _ _ hq]
          exact I.2 (x, y) (by simp only; omega) (by simp only; omega)
        · rw [hk_go _ _ _ _ hq]
          exact I.2 f (by omega) (by omega)
/-- The hunks of two lists are in form, and make the one of the other. -/
theorem hks_ok (a b : List ByteArray) : okH a.length b.length 0 (0, 0) (hks a b) := (hk_ok a b _ 0 0 rfl (by omega) (by omega)).1 0 (0, 0) (Nat.le_refl _) (Nat.le_refl _) rfl
theorem hks_app (a b : List ByteArray) : app a b (hks a b) = b := by
  have h := (hk_app a b _ 0 0 rfl (by omega) (by omega)).1
  rw [List.take_zero, List.nil_append, List.drop_zero] at h
  exact h
end Go.Proofs.Ytmnpcignolofaaa
