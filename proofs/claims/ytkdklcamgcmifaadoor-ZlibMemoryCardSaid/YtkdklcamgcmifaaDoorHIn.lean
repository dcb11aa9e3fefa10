/- What came in: bytes; a list of lists of bytes. -/
import Derived.Test.YtkdklcamgcmifaaDoorHOrd
import Derived.ShutString
import Derived.ChangeOld
import Derived.Below
namespace Go.Proofs.YtkdklcamgcmifaaDoor
open Go.ChangeShapes Go.WideShapes Go.ChangeAt Go.RowKit Go.Proofs.YtkdklcamgcmifaaDoorW.PrintWords
set_option linter.unusedVariables false
theorem wf_u8 {n : Int} (h : (Lit.int .u8 n).wf = true) : 0 ≤ n ∧ n < 256 := by
  simp only [Lit.wf, Bool.and_eq_true, decide_eq_true_eq] at h
  have e1 : IntKind.u8.min = 0 := by decide
  have e2 : IntKind.u8.max = 255 := by decide
  omega
theorem wf_i64 {n : Int} (h : (Lit.int .i64 n).wf = true) : -9223372036854775808 ≤ n ∧ n ≤ 9223372036854775807 := by
  simp only [Lit.wf, Bool.and_eq_true, decide_eq_true_eq] at h
  have e1 : IntKind.i64.min = -9223372036854775808 := by decide
  have e2 : IntKind.i64.max = 9223372036854775807 := by decide
  omega
theorem bytes_in {W : World} {H : Type} {enc : TypeId × Value → H} {a : Option Addr} {len cap : Nat} {d : DataW H} {p : List MemPlace} {held : Bool} (h : ∃ fuel, DataW.trod enc Tryd.prog W 0 (fun _ => true) held fuel 22 (Value.slice a len cap).cells.toList = some (d, p)) :
    ∃ l : List Int, l.length = len ∧ ReadsInt W .u8 a len l ∧ len ≤ cap ∧ ∀ x ∈ l, 0 ≤ x ∧ x < 256 := by
  obtain ⟨fuel, hf⟩ := h
  rcases open_ints Tryd.underlying22 Tryd.underlying5 (by kernel_rfl) hf with ⟨hcs, _⟩ | ⟨x, l, c, zs, hcs, _, hl, hm, hz, _, hcell, hwz⟩
  · simp [Value.cells] at hcs
    obtain ⟨rfl, rfl, rfl⟩ := hcs
    exact ⟨[], rfl, ⟨rfl, by omega, fun h => absurd h (by omega)⟩, by omega, by simp⟩
  · simp [Value.cells] at hcs
    obtain ⟨rfl, rfl, rfl⟩ := hcs
    have hlen : zs.length = cap := by simpa using hz
    have hmx : cap ≤ 9223372036854775807 := by simpa [maxLen] using hm
    have htk : (zs.take len).length = len := by rw [List.length_take]; omega
    refine ⟨zs.take len, htk, ⟨htk, by omega, fun _ => ⟨x, rfl, fun j hj => ?_⟩⟩, hl, fun y hy => wf_u8 (hwz y (List.mem_of_mem_take hy))⟩
    rw [hcell j (by omega)]
    have : (zs.take len).getD j 0 = zs.getD j 0 := by
      simp only [List.getD_eq_getElem?_getD]
      rw [List.getElem?_take_of_lt hj]
    rw [this]
end Go.Proofs.YtkdklcamgcmifaaDoor
