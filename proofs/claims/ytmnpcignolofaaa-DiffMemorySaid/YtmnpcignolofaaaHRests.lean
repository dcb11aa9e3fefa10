/- codicilref19.Rests: the rest of each point, row by row. -/
import Derived.Test.YtmnpcignolofaaaHShortW
namespace Go.Proofs.Ytmnpcignolofaaa
set_option linter.unusedVariables false
set_option linter.unusedSimpArgs false
open Go.RowKit Go.Proofs.YtmnpcignolofaaaW.PrintWords Go.Proofs.YtmnpcignolofaaaW.PrintMore
/-- The rows' cells: those from X on are made. -/
def rtCells (Tb n m X : Nat) : List Value := (List.range (n + 1)).map fun x => if X ≤ x then .slice (some ⟨Tb + 1 + n - x, 0, none⟩) (m + 1) (m + 1) else .slice none 0 0
theorem rtCells_at (Tb n m X x : Nat) (hx : x ≤ n) : (rtCells Tb n m X).toArray[x]? = some (if X ≤ x then .slice (some ⟨Tb + 1 + n - x, 0, none⟩) (m + 1) (m + 1) else .slice none 0 0) := by
  simp [rtCells, List.getElem?_map, List.getElem?_range (show x < n + 1 by omega)]
/-- The table at Tb: the rows from X on are made, R x is row x. -/
structure Rt (w0 : World) (Tb n m : Nat) (R : Nat → List Int) (X : Nat) (W : World) : Prop where
  blk : W.heap[Tb]? = some (.cells (rtCells Tb n m X).toArray 56 (0, 0))
  rows : ∀ x, X ≤ x → x ≤ n → W.heap[Tb + 1 + n - x]? = some (.cells (nums .i64 (R x)).toArray 3 (0, 0)) ∧ (R x).length = m + 1
  size : W.heap.size = Tb + 1 + (n + 1 - X)
  below : Below w0.heap.size w0 W
  base : w0.heap.size ≤ Tb
theorem Rt.drewN {w0 : World} {Tb n m : Nat} {R : Nat → List Int} {X : Nat} {W : World} (h : Rt w0 Tb n m R X W) (k : Nat) : Rt w0 Tb n m R X (W.drewN k) :=
  ⟨h.blk, h.rows, h.size, pw_below_drewN h.below k, h.base⟩
theorem Rt.outer {w0 : World} {Tb n m : Nat} {R : Nat → List Int} {X : Nat} {W : World} (h : Rt w0 Tb n m R X W) (x : Nat) (hx : X ≤ x) (hn : x ≤ n) : W.cell? ⟨Tb, x, none⟩ = some (.slice (some ⟨Tb + 1 + n - x, 0, none⟩) (m + 1) (m + 1)) := by
  rw [blk_cell h.blk x, rtCells_at _ _ _ _ _ hn, if_pos hx]
theorem Rt.inner {w0 : World} {Tb n m : Nat} {R : Nat → List Int} {X : Nat} {W : World} (h : Rt w0 Tb n m R X W) (x y : Nat) (hx : X ≤ x) (hn : x ≤ n) (hy : y ≤ m) : W.cell? ⟨Tb + 1 + n - x, y, none⟩ = some (.int .i64 ((R x).getD y 0)) ∧ W.frozen? ⟨Tb + 1 + n - x, y, none⟩ = false := by
  have hr := h.rows x hx hn
  refine ⟨?_, blk_frozen hr.1 y⟩
  rw [blk_cell hr.1 y]
  simp [nums, List.getElem?_eq_getElem (show y < (R x).length by omega), List.getD_eq_getElem?_getD]
theorem Rt.put {w0 : World} {Tb n m : Nat} {R : Nat → List Int} {X : Nat} {W : World} (h : Rt w0 Tb n m R X W) (x y : Nat) (hx : X ≤ x) (hn : x ≤ n) (u : Int) :
    Rt w0 Tb n m (fun z => if z = x then (R x).set y u else R z) X (W.setCell ⟨Tb + 1 + n - x, y, none⟩ (.int .i64 u)) := by
  have hr := h.rows x hx hn
  have hb := h.base
  refine ⟨blk_far h.blk (p := ⟨Tb + 1 + n - x, y, none⟩) (by show Tb ≠ Tb + 1 + n - x; omega) _, fun z hz hzn => ?_, by simpa [World.setCell] using h.size, h.below.setCell (p := ⟨Tb + 1 + n - x, y, none⟩) (by show _ ≤ Tb + 1 + n - x; omega) _, hb⟩
  by_cases e : z = x
  · subst e
    simp only [if_true]
    refine ⟨?_, by rw [List.length_set]; exact hr.2⟩
    rw [blk_set hr.1 y]
    simp [nums, List.map_set]
  · simp only [if_neg e]
    have hz2 := h.rows z hz hzn
    exact ⟨blk_far hz2.1 (p := ⟨Tb + 1 + n - x, y, none⟩) (by show Tb + 1 + n - z ≠ Tb + 1 + n - x; omega) _, hz2.2⟩
/-- A row more. -/
theorem Rt.more {w0 : World} {Tb n m : Nat} {R : Nat → List Int} {x : Nat} {W : World} (h : Rt w0 Tb n m R (x + 1) W) (hn : x ≤ n) :
    Rt w0 Tb n m (fun z => if z = x then List.replicate (m + 1) 0 else R z) x ((W.alloc (.cells (madeCells #[.int .i64 0] (m + 1)) 3)).setCell ⟨Tb, x, none⟩ (.slice (some ⟨W.heap.size, 0, none⟩) (m + 1) (m + 1))) := by
  have hs := h.size
  have hb := h.base
  have hlt := blk_lt h.blk
  have hsz : W.heap.size = Tb + 1 + n - x := by omega
  have hb1 := (Below.heap_alloc W (.cells (madeCells #[.int .i64 0] (m + 1)) 3) Tb hlt).trans h.blk
  refine ⟨?_, fun z hz hzn => ?_, by simp [World.setCell]; omega, (below_alloc h.below _).setCell (p := ⟨Tb, x, none⟩) hb _, hb⟩
  · rw [blk_set hb1 x, hsz]
    have e : (rtCells Tb n m (x + 1)).toArray.setIfInBounds x (.slice (some ⟨Tb + 1 + n - x, 0, none⟩) (m + 1) (m + 1)) = (rtCells Tb n m x).toArray := by
      apply Array.ext_getElem?
      intro i
      rw [Array.getElem?_setIfInBounds]
      by_cases hi : x = i
      · subst hi
        rw [if_pos rfl, if_pos (by simp [rtCells]; omega), rtCells_at _ _ _ _ _ hn, if_pos (Nat.le_refl _)]
      · rw [if_neg hi]
        by_cases hin : i ≤ n
        · rw [rtCells_at _ _ _ _ _ hin, rtCells_at _ _ _ _ _ hin]
          by_cases h1 : x ≤ i
          · rw [if_pos (by omega), if_pos h1]
          · rw [if_neg (by omega), if_neg h1]
        · rw [Array.getElem?_eq_none (by simp [rtCells]; omega), Array.getElem?_eq_none (by simp [rtCells]; omega)]
    rw [e]
  · by_cases e : z = x
    · subst e
      simp only [if_true]
      refine ⟨?_, by simp⟩
      rw [← hsz]
      refine (Below.heap_setCell _ ⟨Tb, z, none⟩ _ W.heap.size (by show W.heap.size ≠ Tb; omega)).trans ((heap_alloc_new W _).trans ?_)
      have hc : madeCells #[Value.int .i64 0] (m + 1) = (nums .i64 (List.replicate (m + 1) 0)).toArray := by
        have hr := own_made W W.heap.size 3 .i64 (m + 1) (Nat.le_refl _)
        apply Array.ext
        · simp [madeCells, nums]
        · intro i h1 h2
          simp [madeCells, nums, Nat.mod_one]
      rw [hc]
    · simp only [if_neg e]
      have hz2 := h.rows z (by omega) hzn
      exact ⟨(Below.heap_setCell _ ⟨Tb, x, none⟩ _ (Tb + 1 + n - z) (by show Tb + 1 + n - z ≠ Tb; omega)).trans ((Below.heap_alloc W _ _ (blk_lt hz2.1)).trans hz2.1), hz2.2⟩
end Go.Proofs.Ytmnpcignolofaaa
