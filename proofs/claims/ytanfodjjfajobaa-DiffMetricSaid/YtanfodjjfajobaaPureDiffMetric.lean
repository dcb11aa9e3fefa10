/- Rest is the same both ways, 0 just where both are alike, and never more than by way of a third list. No condition. -/
import Derived.Test.YtanfodjjfajobaaPDMx1
namespace Go.Proofs.Ytanfodjjfajobaa.Pure
set_option linter.unusedVariables false
set_option linter.unusedSimpArgs false
open Go.RowKit Go.Proofs.Ytanfodjjfajobaa Go.Proofs.YtanfodjjfajobaaW.PrintWords Go.Proofs.YtanfodjjfajobaaW.PrintLast Go.Proofs.YtanfodjjfajobaaW.PrintMore Go.Proofs.Ytanfodjjfajobaa.PDM
theorem wrapI (x : Int) (h0 : -9223372036854775808 ≤ x) (h1 : x ≤ 9223372036854775807) : wrap64 x = x := by
  simp only [wrap64]
  omega
theorem same_lines (a b : List ByteArray) (hl : a.length = b.length) (hm : a.length ≤ 1000) : ∀ (m i k : Nat), a.length - i = m → i ≤ a.length → m < k →
    codicilref19_SameLines.l0 k a b (a.length : Int) (i : Int) = some (decide ((txs a).drop i = (txs b).drop i)) := by
  intro m
  induction m with
  | zero =>
    intro i k hmi hi hk
    obtain ⟨k, rfl⟩ : ∃ j, k = j + 1 := ⟨k - 1, by omega⟩
    simp only [codicilref19_SameLines.l0]
    rw [if_neg (by omega), List.drop_of_length_le (l := txs a) (by simp [txs]; omega), List.drop_of_length_le (l := txs b) (by simp [txs]; omega)]
    simp
  | succ m ih =>
    intro i k hmi hi hk
    obtain ⟨k, rfl⟩ : ∃ j, k = j + 1 := ⟨k - 1, by omega⟩
    have ha : i < (txs a).length := by simp [txs]; omega
    have hb : i < (txs b).length := by simp [txs]; omega
    have ea : (rdOf ByteArray.empty a (i : Int)).toList = (txs a)[i] := by
      rw [ByteArray.toList_eq]
      have hia : i < a.length := by omega
      simp [rdOf, List.getD_eq_getElem?_getD, List.getElem?_eq_getElem hia, txs, tx]
    have eb : (rdOf ByteArray.empty b (i : Int)).toList = (txs b)[i] := by
      rw [ByteArray.toList_eq]
      have hib : i < b.length := by omega
      simp [rdOf, List.getD_eq_getElem?_getD, List.getElem?_eq_getElem hib, txs, tx]
    simp only [codicilref19_SameLines.l0]
    rw [if_pos (by omega), if_pos (by omega), if_pos (by omega), if_pos (by omega), ea, eb, List.drop_eq_getElem_cons ha, List.drop_eq_getElem_cons hb]
    by_cases h : (txs a)[i] = (txs b)[i]
    · rw [if_pos h, wrapI _ (by omega) (by omega), show (i : Int) + 1 = ((i + 1 : Nat) : Int) from by omega, ih (i + 1) k (by omega) (by omega) (by omega), h]
      simp only [List.cons.injEq, true_and]
    · rw [if_neg h]
      simp only [List.cons.injEq, h, false_and, decide_false]
theorem same_is (a b : List ByteArray) (ha : a.length ≤ 60) : codicilref19_SameLines.f 100 a b = some (decide (txs a = txs b)) := by
  unfold codicilref19_SameLines.f
  by_cases h : a.length = b.length
  · rw [if_pos (by omega)]
    have h2 := same_lines a b h (by omega) a.length 0 100 (by omega) (by omega) (by omega)
    simpa using h2
  · rw [if_neg (by omega)]
    have hne : txs a ≠ txs b := fun e => h (by have := congrArg List.length e; simpa [txs] using this)
    simp [hne]
theorem rest_f (a b : List ByteArray) (ha : a.length ≤ 60) (hb : b.length ≤ 60) (sa : ∀ s ∈ a, s.size ≤ maxLen) (sb : ∀ s ∈ b, s.size ≤ maxLen) : diff_Rest.f a b = some ((dist (txs a) (txs b) : Int), 0) := by
  unfold diff_Rest.f
  rw [if_pos ⟨by omega, by omega, sa, sb⟩]
theorem DiffMetric (a b c : List ByteArray) (sa : ∀ s ∈ a, s.size ≤ maxLen) (sb : ∀ s ∈ b, s.size ≤ maxLen) (sc : ∀ s ∈ c, s.size ≤ maxLen) : codicillaw19_DiffMetric.f 101 a b c = some true := by
  unfold codicillaw19_DiffMetric.f
  rw [show codicillaw19_awake.f = some true from rfl]
  simp only [Option.bind_some, if_true]
  by_cases h1 : (a.length : Int) > 60
  · rw [if_pos h1]
    rfl
  · rw [if_neg h1]
    by_cases h2 : (b.length : Int) > 60
    · rw [if_pos h2]
      rfl
    · rw [if_neg h2]
      by_cases h3 : (c.length : Int) > 60
      · rw [decide_eq_true h3]
        rfl
      · rw [decide_eq_false h3]
        simp only [codicillaw19_DiffMetric.j0]
        rw [rest_f a b (by omega) (by omega) sa sb, rest_f b a (by omega) (by omega) sb sa, rest_f b c (by omega) (by omega) sb sc, rest_f a c (by omega) (by omega) sa sc]
        have hs := same_is a b (by omega)
        have hsym := dist_symm _ (txs a) (txs b) rfl
        have htri := dist_tri (txs a) (txs b) (txs c)
        have hsum := dist_sum (txs a) (txs b)
        have hsum2 := dist_sum (txs b) (txs c)
        have hla : (txs a).length = a.length := by simp [txs]
        have hlb : (txs b).length = b.length := by simp [txs]
        have hlc : (txs c).length = c.length := by simp [txs]
        have hzero : ((dist (txs a) (txs b) : Int) == 0) = decide (txs a = txs b) := by
          by_cases e : txs a = txs b
          · rw [e, dist_self]
            simp
          · have : dist (txs a) (txs b) ≠ 0 := fun h => e (dist_zero _ _ h)
            simp [e, this]
        simp only [Option.bind_some, if_true]
        rw [← hsym, if_pos rfl, hs]
        simp only [Option.bind_some]
        have c1 : (((dist (txs a) (txs b) : Int) == 0) == decide (txs a = txs b)) = true := by rw [hzero]; simp
        have c2 : (dist (txs a) (txs c) : Int) ≤ wrap64 ((dist (txs a) (txs b) : Int) + (dist (txs b) (txs c) : Int)) := by rw [wrapI _ (by omega) (by omega)]; omega
        rw [if_pos c1, if_pos c2, wrapI _ (by omega) (by omega)]
        rw [if_neg (by decide)]
        simp only [Option.some.injEq, decide_eq_true_eq]
        omega
end Go.Proofs.Ytanfodjjfajobaa.Pure
