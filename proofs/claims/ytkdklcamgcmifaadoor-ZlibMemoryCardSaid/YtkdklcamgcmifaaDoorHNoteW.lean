/- deflate's finder: note. -/
import Derived.Test.YtkdklcamgcmifaaDoorHNote
namespace Go.Proofs.YtkdklcamgcmifaaDoor
set_option linter.unusedVariables false
set_option linter.unusedSimpArgs false
open Go.RowKit Go.Proofs.YtkdklcamgcmifaaDoorW.PrintWords Go.Proofs.YtkdklcamgcmifaaDoorW.PrintMore
open Go.Maps (Keyed)
theorem lawK : Keyed Tryd.prog 39 := Maps.int_keyed Tryd.underlying39
theorem zeroInt (w : World) : (zeroValue 3).run Tryd.prog w = .ok (.int .i64 0) w := by kernel_rfl
theorem lastAt_short {l : List Int} {i : Nat} (h : l.length < i + 3) (k : Int) : lastAt l (i + 1) k = lastAt l i k := by
  simp only [lastAt]
  rw [if_neg (by omega)]
theorem lastAt_same {l : List Int} {i : Nat} (h : i + 3 ≤ l.length) : lastAt l (i + 1) (keyN l i) = some i := by
  simp [lastAt, h]
theorem lastAt_other {l : List Int} {i : Nat} {k : Int} (hk : k ≠ keyN l i) : lastAt l (i + 1) k = lastAt l i k := by
  simp only [lastAt]
  rw [if_neg (fun h => hk h.2.symm)]
theorem MapIs.short {D : DataW Unit} {l : List Int} {i : Nat} (hD : MapIs D l i) (h : l.length < i + 3) : MapIs D l (i + 1) :=
  ⟨hD.map, fun k => by rw [lastAt_short h]; exact hD.has k, fun k j hj z => hD.at_ k j (by rw [← lastAt_short h]; exact hj) z⟩
theorem MapIs.put {D : DataW Unit} {l : List Int} {i : Nat} (hD : MapIs D l i) (h : i + 3 ≤ l.length) : MapIs (D.put (.int .u32 (keyN l i)) (.lit (.int .i64 i))) l (i + 1) := by
  refine ⟨hD.map.put _ _, fun k => ?_, fun k j hj z => ?_⟩
  · by_cases hk : k = keyN l i
    · rw [hk, lastAt_same h, Maps.has_put_same hD.map (by trivial)]
      rfl
    · rw [lastAt_other hk, Maps.has_put_other (fun e => hk (by injection e))]
      exact hD.has k
  · by_cases hk : k = keyN l i
    · rw [hk, lastAt_same h] at hj
      cases hj
      rw [hk]
      exact Maps.atKey_put_same hD.map (by trivial) _ _
    · rw [lastAt_other hk] at hj
      rw [Maps.atKey_put_other (fun e => hk (by injection e))]
      exact hD.at_ k j hj z
set_option maxRecDepth 8000 in
set_option maxHeartbeats 1000000 in
theorem note_no (w0 : World) (f M V : Nat) (A : Option Addr) (c cv : Nat) (l : List Int) (i : Nat) (W : World) (hF : Fd w0 f M V A c cv l i W) (hm : l.length ≤ 140737488355328) (hi : l.length < i + 3) (hi2 : i ≤ 140737488355328) :
    Calls Tryd.prog 63 #[.pointer (some ⟨f, 0, none⟩), .int .i64 i] W fun e w' => e = .returned (.tuple #[]) ∧ MF M V W w' ∧ Fd w0 f M V A c cv l (i + 1) w' := by
  have c0 : W.cell? ⟨f, 0, none⟩ = some (.slice A l.length c) := blk_cell hF.blk 0
  have HF := Lib.hid hF
  clear hF
  go_enter Tryd.func63, Tryd.ntmps63
  go_wp2_with fail
  refine (key_no f W A c i l c0 hm hi hi2).mono ?_
  rintro e w' ⟨rfl, rfl⟩
  go_wp2_with fail
  obtain ⟨D, k, hown, hk, hD⟩ := HF.out.map
  obtain ⟨P, ho, hP⟩ := HF.out.row
  exact bodyPost_ret (results_none rfl _ _ _) rfl ⟨rfl, MF.refl _ _ _, HF.out.blk, HF.out.bf, HF.out.bM, HF.out.rd, HF.out.below, ⟨D, k, hown, by omega, hD.short hi⟩, P, ho, fun j hj hj3 => hP j (by omega) hj3⟩
end Go.Proofs.YtkdklcamgcmifaaDoor
