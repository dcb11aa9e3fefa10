/- deflate's finder: key. -/
import Derived.Test.YtkdklcamgcmifaaDoorHBits
import Derived.StillTailTactics
import Derived.Deep.QuietTactic
import Derived.BigQuiet
import Derived.Maps.Own
import Derived.Maps.OwnSet
namespace Go.Proofs.YtkdklcamgcmifaaDoor
set_option linter.unusedVariables false
set_option linter.unusedSimpArgs false
open Go.RowKit Go.Proofs.YtkdklcamgcmifaaDoorW.PrintWords Go.Proofs.YtkdklcamgcmifaaDoorW.PrintMore
def keyN (l : List Int) (i : Nat) : Int := l.getD i 0 * 65536 + l.getD (i + 1) 0 * 256 + l.getD (i + 2) 0
theorem key_bits (a b c : Int) (ha : 0 ≤ a ∧ a < 256) (hb : 0 ≤ b ∧ b < 256) (hc : 0 ≤ c ∧ c < 256) : bits .or .u32 (bits .or .u32 (a * 65536) (b * 256)) c = a * 65536 + b * 256 + c := by
  have h1 : bits .or .u32 (a * 65536) (b * 256) = a * 65536 + b * 256 := by
    rw [u32_or _ _ (by omega) (by omega) (by omega) (by omega), nat_join 16 _ _ (by omega) (by omega)]
    omega
  rw [h1, u32_or _ _ (by omega) (by omega) (by omega) (by omega), nat_join 8 _ _ (by omega) (by omega)]
  omega
set_option maxRecDepth 8000 in
set_option maxHeartbeats 1000000 in
theorem key_no (f : Nat) (W : World) (A : Option Addr) (c i : Nat) (l : List Int) (hc0 : W.cell? ⟨f, 0, none⟩ = some (.slice A l.length c)) (hm : l.length ≤ 140737488355328) (hi : l.length < i + 3) (hi2 : i ≤ 140737488355328) :
    Calls Tryd.prog 71 #[.pointer (some ⟨f, 0, none⟩), .int .i64 i] W fun e w' => e = .returned (.tuple #[.int .u32 0, .bool false]) ∧ w' = W := by
  have h1 : (l.length : Int) < (i : Int) + 3 := by omega
  go_enter Tryd.func71, Tryd.ntmps71
  go_wp2_with fail
  go_ret2
  exact ⟨rfl, rfl⟩
set_option maxRecDepth 8000 in
set_option maxHeartbeats 1000000 in
theorem key_yes (f : Nat) (W : World) (A : Option Addr) (c i : Nat) (l : List Int) (hc0 : W.cell? ⟨f, 0, none⟩ = some (.slice A l.length c)) (hl : ReadsInt W .u8 A l.length l) (hby : ∀ x ∈ l, 0 ≤ x ∧ x < 256) (hm : l.length ≤ 140737488355328) (hi : i + 3 ≤ l.length) :
    Calls Tryd.prog 71 #[.pointer (some ⟨f, 0, none⟩), .int .i64 i] W fun e w' => e = .returned (.tuple #[.int .u32 (keyN l i), .bool true]) ∧ ∃ m, w' = W.drewN m := by
  obtain ⟨ad, rfl, hcell⟩ := hl.2.2 (by omega)
  have k0 := hcell i (by omega)
  have k1 := hcell (i + 1) (by omega)
  have k2 := hcell (i + 2) (by omega)
  have g : ∀ j, j < l.length → 0 ≤ l.getD j 0 ∧ l.getD j 0 < 256 := fun j hj => by
    have := hby _ (List.getElem_mem hj)
    simpa [List.getD_eq_getElem?_getD, List.getElem?_eq_getElem hj] using this
  have g0 := g i (by omega)
  have g1 := g (i + 1) (by omega)
  have g2 := g (i + 2) (by omega)
  have HK := Lib.hid (show keyN l i = l.getD i 0 * 65536 + l.getD (i + 1) 0 * 256 + l.getD (i + 2) 0 from rfl)
  generalize l.getD i 0 = x0 at *
  generalize l.getD (i + 1) 0 = x1 at *
  generalize l.getD (i + 2) 0 = x2 at *
  have HKB := Lib.hid (key_bits x0 x1 x2 g0 g1 g2)
  have h1 : (i : Int) + 3 ≤ (l.length : Int) := by omega
  have i0 : (0 : Int) ≤ (i : Int) := by omega
  have i1 : (i : Int) < (l.length : Int) := by omega
  obtain ⟨j1, hj1⟩ : ∃ j, j = i + 1 := ⟨_, rfl⟩
  obtain ⟨j2, hj2⟩ : ∃ j, j = i + 2 := ⟨_, rfl⟩
  have w1 : IntKind.i64.wrap ((i : Int) + 1) = (j1 : Int) := by rw [IntKind.wrap_i64]; omega
  have w2 : IntKind.i64.wrap ((i : Int) + 2) = (j2 : Int) := by rw [IntKind.wrap_i64]; omega
  have i2 : (0 : Int) ≤ (j1 : Int) := by omega
  have i3 : (j1 : Int) < (l.length : Int) := by omega
  have i4 : (0 : Int) ≤ (j2 : Int) := by omega
  have i5 : (j2 : Int) < (l.length : Int) := by omega
  rw [← hj1] at k1
  rw [← hj2] at k2
  have u0 : IntKind.u32.wrap x0 = x0 := by rw [IntKind.wrap_u32]; omega
  have u1 : IntKind.u32.wrap x1 = x1 := by rw [IntKind.wrap_u32]; omega
  have u2 : IntKind.u32.wrap x2 = x2 := by rw [IntKind.wrap_u32]; omega
  have v0 : IntKind.u32.wrap (x0 * 65536) = x0 * 65536 := by rw [IntKind.wrap_u32]; omega
  have v1 : IntKind.u32.wrap (x1 * 256) = x1 * 256 := by rw [IntKind.wrap_u32]; omega
  clear hcell g hl hby hj1 hj2
  go_enter Tryd.func71, Tryd.ntmps71
  go_wp2_with fail
  go_quiet (fail)
  go_wp2_with fail
  go_ret2
  refine ⟨?_, nq, rfl⟩
  rw [HK.out]
  exact congrArg (fun z => Ending.returned (.tuple #[.int .u32 z, .bool true])) HKB.out
end Go.Proofs.YtkdklcamgcmifaaDoor
