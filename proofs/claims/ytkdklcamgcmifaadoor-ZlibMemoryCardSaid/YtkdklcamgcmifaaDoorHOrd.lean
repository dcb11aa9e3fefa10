/- The table of the order, as the card lays it. -/
import Derived.Test.YtkdklcamgcmifaaDoorRows
import Derived.Test.YtkdklcamgcmifaaDoorHID
import Derived.ProofKit
import Derived.LaidMore
import Derived.OpenShut
namespace Go.Proofs.YtkdklcamgcmifaaDoor
open Go.ChangeShapes Go.WideShapes Go.ChangeAt Go.RowKit
set_option linter.unusedVariables false
abbrev ordLaid {H : Type} : List (String × DataW H) := [("codicil/inflate.order", Rows.laid_codicil_inflate_order)]
theorem gOrder : Tryd.prog.globalNamed "codicil/inflate.order" = some 0 := by kernel_rfl
theorem tOrder : (Tryd.prog.globals[0]?).map (·.type) = some 91 := by kernel_rfl
theorem ord_list {H : Type} : (Rows.laid_codicil_inflate_order : DataW H) = .agg (ordT.map fun n => .lit (.int .i64 ((n : Nat) : Int))) := by
  simp [Rows.laid_codicil_inflate_order, ordT]
theorem ord_of_laid {W : World} (h : laidMet Tryd.prog ordLaid W) : Ord W := by
  obtain ⟨ps, ⟨g0, t0, cs0, f0, p0, q0, hg0, ht0, hv0, hd0, _, _⟩, _⟩ := h
  obtain rfl := Option.some.inj (gOrder.symm.trans hg0)
  obtain rfl := Option.some.inj (tOrder.symm.trans ht0)
  have c3 : Tryd.prog.cellsOf 3 = 1 := by kernel_rfl
  obtain ⟨xs, m1, rfl, hx1, hlen, hn3, hel⟩ := DataW.trod_array Tryd.underlying91 hd0
  intro j hj
  have hj1 := hel j hj
  rw [List.getElem?_eq_getElem (by omega)] at hj1
  obtain ⟨k, e1, e2, _⟩ := DataW.trod_int Tryd.underlying3 hj1
  have hx := hx1
  rw [ord_list] at hx
  simp only [Prod.mk.injEq, DataW.agg.injEq] at hx
  have hxj := congrArg (fun l => l[j]?) hx.1
  simp only [List.getElem?_map, List.getElem?_eq_getElem (show j < xs.length by omega), List.getElem?_eq_getElem (show j < ordT.length by simpa [ordT] using hj), Option.map_some, Option.some.injEq, e2] at hxj
  have hk : k = ((ordT[j]'(by simpa [ordT] using hj) : Nat) : Int) := by
    simp only [DataW.lit.injEq, Lit.int.injEq, true_and] at hxj
    exact hxj.symm
  rw [World.var?_cell hg0 hv0 j]
  rw [c3, Nat.mul_one] at e1
  have e3 : cs0.toList[j]? = some (.int .i64 k) := by
    have h0 := congrArg (fun l => l[0]?) e1
    simpa [List.getElem?_take, List.getElem?_drop] using h0
  rw [← Array.getElem?_toList, e3, hk, List.getD_eq_getElem?_getD, List.getElem?_eq_getElem (show j < ordT.length by simpa [ordT] using hj)]
  rfl
theorem ord_of_laidH {W : World} (h : laidMetH Tryd.prog ordLaid W) : Ord W := by
  rw [MakeChecks.laidMetH_plain _ _ _ (by kernel_rfl)] at h
  exact ord_of_laid h
theorem door_met (os : Os) (args : Array Value) : laidMetH Tryd.prog ordLaid ((World.doorLaid Tryd.prog 400 os).forCall (fun _ _ => 0) ⟨#[], args, []⟩).memory :=
  laidMetH_of_parts3 (fuel := 8) (laidMet_of_run' 8 (by kernel_rfl) (by kernel_rfl)) (by kernel_rfl) (by kernel_rfl)
end Go.Proofs.YtkdklcamgcmifaaDoor
