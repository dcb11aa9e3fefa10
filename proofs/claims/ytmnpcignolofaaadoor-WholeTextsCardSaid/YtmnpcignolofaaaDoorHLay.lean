/- diff.lay: the plane of two lists. -/
import Derived.Test.YtmnpcignolofaaaDoorHPlane
import Derived.Test.YtmnpcignolofaaaDoorHDist
namespace Go.Proofs.YtmnpcignolofaaaDoor
set_option linter.unusedVariables false
set_option linter.unusedSimpArgs false
open Go.RowKit Go.Proofs.YtmnpcignolofaaaDoorW.PrintWords Go.Proofs.YtmnpcignolofaaaDoorW.PrintMore
def txs (l : List ByteArray) : List (List UInt8) := l.map tx
/-- The rests from a point on. -/
def dd (a b : List ByteArray) (x y : Nat) : Nat := dist ((txs a).drop x) ((txs b).drop y)
/-- The numbers tell which lines are alike. -/
structure Nums (a b : List ByteArray) (al bl : List Int) : Prop where
  la : al.length = a.length
  lb : bl.length = b.length
  eq : ∀ x y, x < a.length → y < b.length → (al.getD x 0 = bl.getD y 0 ↔ (txs a).getD x [] = (txs b).getD y [])
/-- From the point (X, Y) on, row by row, the table is right. -/
def Okt (a b : List ByteArray) (T : List Int) (X Y : Nat) : Prop := ∀ x y, x ≤ a.length → y ≤ b.length → (X < x ∨ X = x ∧ Y ≤ y) → T.getD (x * (b.length + 1) + y) 0 = (dd a b x y : Int)
theorem at_inj {m x y x' y' : Nat} (hy : y ≤ m) (hy' : y' ≤ m) (h : x * (m + 1) + y = x' * (m + 1) + y') : x = x' ∧ y = y' := by
  have h1 : (x * (m + 1) + y) / (m + 1) = x := by rw [Nat.mul_comm, Nat.mul_add_div (by omega), Nat.div_eq_of_lt (by omega)]; rfl
  have h2 : (x' * (m + 1) + y') / (m + 1) = x' := by rw [Nat.mul_comm, Nat.mul_add_div (by omega), Nat.div_eq_of_lt (by omega)]; rfl
  rw [h] at h1
  have e : x = x' := h1.symm.trans h2
  subst e
  exact ⟨rfl, by omega⟩
theorem dd_end1 (a b : List ByteArray) (y : Nat) : dd a b a.length y = b.length - y := by
  unfold dd
  rw [List.drop_of_length_le (by simp [txs]), dist_nil]
  simp [txs]
theorem dd_end2 (a b : List ByteArray) (x : Nat) : dd a b x b.length = a.length - x := by
  unfold dd
  rw [List.drop_of_length_le (l := txs b) (by simp [txs]), dist_nil2]
  simp [txs]
theorem dd_in (a b : List ByteArray) (x y : Nat) (hx : x < a.length) (hy : y < b.length) : dd a b x y = if (txs a).getD x [] = (txs b).getD y [] then dd a b (x + 1) (y + 1) else 1 + min (dd a b (x + 1) y) (dd a b x (y + 1)) := by
  have hx' : x < (txs a).length := by simpa [txs] using hx
  have hy' : y < (txs b).length := by simpa [txs] using hy
  have e1 : (txs a).drop x = (txs a).getD x [] :: (txs a).drop (x + 1) := by
    rw [List.drop_eq_getElem_cons hx']
    simp [List.getD_eq_getElem?_getD, List.getElem?_eq_getElem hx']
  have e2 : (txs b).drop y = (txs b).getD y [] :: (txs b).drop (y + 1) := by
    rw [List.drop_eq_getElem_cons hy']
    simp [List.getD_eq_getElem?_getD, List.getElem?_eq_getElem hy']
  unfold dd
  rw [e1, e2]
  by_cases h : (txs a).getD x [] = (txs b).getD y []
  · rw [if_pos h, h, dist_same]
  · rw [if_neg h, dist_other h]
theorem least_is {a b : List ByteArray} {al bl T : List Int} (hN : Nums a b al bl) {x y : Nat} (hx : x ≤ a.length) (hy : y ≤ b.length) (hT : Okt a b T x (y + 1)) : leastI al bl T x y = (dd a b x y : Int) := by
  unfold leastI
  rw [hN.la, hN.lb]
  by_cases h1 : x = a.length
  · rw [if_pos h1, h1, dd_end1]
  · rw [if_neg h1]
    by_cases h2 : y = b.length
    · rw [if_pos h2, h2, dd_end2]
    · rw [if_neg h2, dd_in a b x y (by omega) (by omega)]
      by_cases h3 : (txs a).getD x [] = (txs b).getD y []
      · rw [if_pos ((hN.eq x y (by omega) (by omega)).2 h3), if_pos h3]
        exact hT (x + 1) (y + 1) (by omega) (by omega) (.inl (by omega))
      · rw [if_neg (fun h => h3 ((hN.eq x y (by omega) (by omega)).1 h)), if_neg h3, hT (x + 1) y (by omega) (by omega) (.inl (by omega)), hT x (y + 1) (by omega) (by omega) (.inr ⟨rfl, Nat.le_refl _⟩)]
        omega
theorem okt_set {a b : List ByteArray} {T : List Int} {x y : Nat} (hx : x ≤ a.length) (hy : y ≤ b.length) (hl : T.length = (a.length + 1) * (b.length + 1)) (hT : Okt a b T x (y + 1)) : Okt a b (T.set (x * (b.length + 1) + y) (dd a b x y : Int)) x y := by
  intro x' y' hx' hy' h
  have hlt := pl_at a.length b.length x y hx hy
  rw [← hl] at hlt
  by_cases e : x = x' ∧ y = y'
  · obtain ⟨rfl, rfl⟩ := e
    simp [List.getD_eq_getElem?_getD, List.getElem?_set_self hlt]
  · have hne : x * (b.length + 1) + y ≠ x' * (b.length + 1) + y' := fun k => e (at_inj hy hy' k)
    rw [← hT x' y' hx' hy' (by omega)]
    simp [List.getD_eq_getElem?_getD, List.getElem?_set_ne hne]
theorem okt_row {a b : List ByteArray} {T : List Int} {X : Nat} (h : Okt a b T (X + 1) 0) : Okt a b T X (b.length + 1) := fun x y hx hy k => h x y hx hy (by omega)
theorem dd_le (a b : List ByteArray) (x y : Nat) : dd a b x y ≤ a.length + b.length := by
  have := dist_sum ((txs a).drop x) ((txs b).drop y)
  unfold dd
  simp [txs] at this ⊢
  omega
theorem Pl.put {base g R : Nat} {Aa : Option Addr} {ca : Nat} {Ab : Option Addr} {cb : Nat} {al bl T : List Int} {W : World} (h : Pl base g R Aa ca Ab cb al bl T W) (i : Nat) (u : Int) :
    Pl base g R Aa ca Ab cb al bl (T.set i u) (W.setCell ⟨R, i, none⟩ (.int .i32 u)) := by
  obtain ⟨cur, hR⟩ := own_typed h.r R rfl
  have hgR : g ≠ R := blk_ne h.blk hR (by decide)
  have hst := own_store h.r (i : Int) u
  rw [Int.toNat_natCast] at hst
  refine ⟨?_, ?_, ?_, ?_, by simpa using h.len, h.bg⟩
  · rw [List.length_set]
    exact blk_far h.blk (p := ⟨R, i, none⟩) hgR _
  · exact own_move h.a fun k hk => Below.heap_setCell W ⟨R, i, none⟩ _ k (fun e => by
      obtain ⟨cur2, h2⟩ := own_typed h.a k hk
      exact blk_ne h2 hR (by decide) e)
  · exact own_move h.b fun k hk => Below.heap_setCell W ⟨R, i, none⟩ _ k (fun e => by
      obtain ⟨cur2, h2⟩ := own_typed h.b k hk
      exact blk_ne h2 hR (by decide) e)
  · rw [List.length_set]
    exact hst.1
end Go.Proofs.YtmnpcignolofaaaDoor
