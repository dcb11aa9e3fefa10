/- deflate's finder: what it has noted. -/
import Derived.Test.YtkdklcamgcmifaaDoorHFind
import Derived.Maps.Views
namespace Go.Proofs.YtkdklcamgcmifaaDoor
set_option linter.unusedVariables false
set_option linter.unusedSimpArgs false
open Go.RowKit Go.Proofs.YtkdklcamgcmifaaDoorW.PrintWords Go.Proofs.YtkdklcamgcmifaaDoorW.PrintMore
/-- The last place ahead of i with the key k. -/
def lastAt (l : List Int) : Nat → Int → Option Nat
  | 0, _ => none
  | i + 1, k => if i + 3 ≤ l.length ∧ keyN l i = k then some i else lastAt l i k
def prevI (l : List Int) (j : Nat) : Int := match lastAt l j (keyN l j) with
  | some q => q
  | none => -1
/-- The map reads as lastAt l i. -/
structure MapIs (D : DataW Unit) (l : List Int) (i : Nat) : Prop where
  map : Maps.IsMap D
  has : ∀ k : Int, Maps.has D (.int .u32 k) = (lastAt l i k).isSome
  at_ : ∀ k j, lastAt l i k = some j → ∀ z, D.atKey (.int .u32 k) z = .lit (.int .i64 j)
/-- W' is W but for the blocks M and V, and what is new. -/
structure MF (M V : Nat) (W W' : World) : Prop where
  os : W'.os = W.os
  tape : W'.tape = W.tape
  output : W'.output = W.output
  size : W.heap.size ≤ W'.heap.size
  keep : ∀ i, i < W.heap.size → i ≠ M → i ≠ V → W'.heap[i]? = W.heap[i]?
theorem MF.refl (M V : Nat) (W : World) : MF M V W W := ⟨rfl, rfl, rfl, Nat.le_refl _, fun _ _ _ _ => rfl⟩
theorem MF.trans {M V : Nat} {W W1 W2 : World} (h : MF M V W W1) (k : MF M V W1 W2) : MF M V W W2 :=
  ⟨k.os.trans h.os, k.tape.trans h.tape, k.output.trans h.output, Nat.le_trans h.size k.size, fun i hi h1 h2 => (k.keep i (Nat.lt_of_lt_of_le hi h.size) h1 h2).trans (h.keep i hi h1 h2)⟩
/-- The finder at f over l, the places ahead of i noted. -/
structure Fd (w0 : World) (f M V : Nat) (A : Option Addr) (c cv : Nat) (l : List Int) (i : Nat) (W : World) : Prop where
  blk : W.heap[f]? = some (.cells #[.slice A l.length c, .map (some M), .slice (some ⟨V, 0, none⟩) l.length cv] 83 (0, 0))
  bf : w0.heap.size ≤ f
  bM : w0.heap.size ≤ M
  rd : ReadsInt w0 .u8 A l.length l
  below : Below w0.heap.size w0 W
  map : ∃ (D : DataW Unit) (k : Nat), W.ownsMap Tryd.prog 39 (plainElem Tryd.prog 3) M k D ∧ k ≤ i ∧ MapIs D l i
  row : ∃ P : List Int, W.ownsRow w0.heap.size 3 1 (.slice (some ⟨V, 0, none⟩) l.length cv) l.length (nums .i64 P) ∧ ∀ j, j < i → j + 3 ≤ l.length → P.getD j 0 = prevI l j
theorem Fd.reads {w0 : World} {f M V : Nat} {A : Option Addr} {c cv : Nat} {l : List Int} {i : Nat} {W : World} (h : Fd w0 f M V A c cv l i W) : ReadsInt W .u8 A l.length l := h.rd.below h.below
theorem Fd.bV {w0 : World} {f M V : Nat} {A : Option Addr} {c cv : Nat} {l : List Int} {i : Nat} {W : World} (h : Fd w0 f M V A c cv l i W) : w0.heap.size ≤ V := by
  obtain ⟨P, ho, _⟩ := h.row
  exact own_base ho V rfl
theorem Fd.ne {w0 : World} {f M V : Nat} {A : Option Addr} {c cv : Nat} {l : List Int} {i : Nat} {W : World} (h : Fd w0 f M V A c cv l i W) : f ≠ V ∧ f ≠ M ∧ V ≠ M := by
  obtain ⟨P, ho, _⟩ := h.row
  obtain ⟨cur, hV⟩ := own_typed ho V rfl
  obtain ⟨D, k, ⟨es, clock, hM, _⟩, _⟩ := h.map
  refine ⟨blk_ne h.blk hV (by decide), ?_, ?_⟩
  · rintro rfl
    rw [h.blk] at hM
    cases hM
  · rintro rfl
    rw [hV] at hM
    cases hM
end Go.Proofs.YtkdklcamgcmifaaDoor
