/- diff.inForm of the six hunks of DiffFixed that are not in form: false. Printed by tools/mkform.py. -/
import Derived.Test.YtmnpcignolofaaaDoorHFormNo
namespace Go.Proofs.YtmnpcignolofaaaDoor
set_option linter.unusedVariables false
set_option linter.unusedSimpArgs false
open Go.RowKit Go.Shelf Go.Proofs.YtmnpcignolofaaaDoorW.PrintWords Go.Proofs.YtmnpcignolofaaaDoorW.PrintMore
theorem in_2 (x y : Nat) (hx : x ≤ 2) (hy : y ≤ 2) (W : World) : Calls Tryd.prog 61 #[.complex .f64 (fl x) (fl y), .int .i64 2, .int .i64 2] W fun e w' => e = .returned (.bool true) ∧ w' = W := inside_calls x y 2 2 hx hy (by decide) (by decide) W
set_option maxRecDepth 100000 in
set_option maxHeartbeats 40000000 in
theorem form_no0 (w : World) (g : Nat) (h1 : w.cell? ⟨g, 0, none⟩ = some (.complex .f64 4607182418800017408 4607182418800017408)) (h2 : w.cell? ⟨g, 1, none⟩ = some (.complex .f64 4607182418800017408 4607182418800017408)) :
    Calls Tryd.prog 39 #[.slice (some ⟨g, 0, none⟩) 1 1, .int .i64 2, .int .i64 2] w fun e w' => e = .returned (.bool false) ∧ Below w.heap.size w w' := by
  have I1 := fun W => Lib.hid (show Calls Tryd.prog 61 #[.complex .f64 4607182418800017408 4607182418800017408, .int .i64 2, .int .i64 2] W _ by have h := in_2 1 1 (by decide) (by decide) W; simp only [fl_0, fl_1, fl_2] at h; exact h)
  have I2 := fun W => Lib.hid (show Calls Tryd.prog 61 #[.complex .f64 4607182418800017408 4607182418800017408, .int .i64 2, .int .i64 2] W _ by have h := in_2 1 1 (by decide) (by decide) W; simp only [fl_0, fl_1, fl_2] at h; exact h)
  have s1 := sto_cx 4607182418800017408 4607182418800017408
  have s2 := sto_cx 4607182418800017408 4607182418800017408
  have hA := cx_subt 1 1 0 0 (by decide) (by decide) (by decide) (by decide)
  have hB := cx_subt 1 1 1 1 (by decide) (by decide) (by decide) (by decide)
  simp only [fl_0, fl_1, fl_2, Nat.sub_zero, Nat.sub_self, Nat.reduceSub] at hA hB
  have o0 : (FloatKind.f64.format.order 4607182418800017408 4607182418800017408 != some .eq) = false := by decide +kernel
  have o1 : (FloatKind.f64.format.order 4607182418800017408 0 == some .lt) = false := by decide +kernel
  have o2 : (FloatKind.f64.format.order 0 0 == some .lt) = false := by decide +kernel
  have o3 : (FloatKind.f64.format.order 0 0 == some .eq && FloatKind.f64.format.order 0 0 == some .eq) = true := by decide +kernel
  have g1 := eq_guardF .neq
  have g2 := eq_guardC .eql
  have c0 := cv_00
  go_enter Tryd.func39, Tryd.ntmps39
  go_wp2_with fail
  go_loopw [16, 7] (fun v16 v7 wr => v16 = .int .i64 0 ∧ v7 = .complex .f64 0 0 ∧ wr = w) (fun _ _ _ => 0)
  case atStart => exact ⟨rfl, rfl, rfl⟩
  case round =>
    obtain ⟨rfl, rfl, rfl⟩ := hrel
    go_wp2_with fail
    refine (I1 _).out.mono ?_
    rintro e w' ⟨rfl, rfl⟩
    go_wp2_with fail
    refine (I2 _).out.mono ?_
    rintro e w' ⟨rfl, rfl⟩
    obtain ⟨W2, hW2⟩ : ∃ W, W = wr.alloc (Obj.cells #[.complex .f64 4607182418800017408 4607182418800017408, .complex .f64 4607182418800017408 4607182418800017408] 38) := ⟨_, rfl⟩
    have k3 : W2.cell? ⟨wr.heap.size, 0, none⟩ = some (.complex .f64 4607182418800017408 4607182418800017408) := by rw [hW2, World.cell?_alloc_at (w := wr) _ _ wr.heap.size 0 rfl]; rfl
    have k4 : W2.cell? ⟨wr.heap.size, 1, none⟩ = some (.complex .f64 4607182418800017408 4607182418800017408) := by rw [hW2, World.cell?_alloc_at (w := wr) _ _ wr.heap.size 1 rfl]; rfl
    have HB2 : Hid (Below wr.heap.size wr W2) := Lib.hid (by rw [hW2]; exact below_alloc (Below.refl _ _) _)
    rw [← hW2]
    clear hW2 h1 h2 I1 I2
    go_wp2_with fail
    go_quiet (fail)
    have k4' : (W2.drewN nq).cell? ⟨wr.heap.size, 1, none⟩ = some (.complex .f64 4607182418800017408 4607182418800017408) := k4
    have HB3 := Lib.hid (pw_below_drewN HB2.out nq)
    clear k3 k4 HB2 hA hB
    generalize W2.drewN nq = W3 at *
    go_wp2_with fail
    go_ret
    exact ⟨rfl, HB3.out⟩
set_option maxRecDepth 100000 in
set_option maxHeartbeats 40000000 in
theorem form_no1 (w : World) (g : Nat) (h1 : w.cell? ⟨g, 0, none⟩ = some (.complex .f64 4607182418800017408 4607182418800017408)) (h2 : w.cell? ⟨g, 1, none⟩ = some (.complex .f64 4613937818241073152 4611686018427387904)) :
    Calls Tryd.prog 39 #[.slice (some ⟨g, 0, none⟩) 1 1, .int .i64 2, .int .i64 2] w fun e w' => e = .returned (.bool false) ∧ Below w.heap.size w w' := by
  have I1 := fun W => Lib.hid (show Calls Tryd.prog 61 #[.complex .f64 4607182418800017408 4607182418800017408, .int .i64 2, .int .i64 2] W _ by have h := in_2 1 1 (by decide) (by decide) W; simp only [fl_0, fl_1, fl_2] at h; exact h)
  have I2 := fun W => Lib.hid (inside_far W)
  have s1 := sto_cx 4607182418800017408 4607182418800017408
  have s2 := sto_cx 4613937818241073152 4611686018427387904
  go_enter Tryd.func39, Tryd.ntmps39
  go_wp2_with fail
  go_loopw [16, 7] (fun v16 v7 wr => v16 = .int .i64 0 ∧ v7 = .complex .f64 0 0 ∧ wr = w) (fun _ _ _ => 0)
  case atStart => exact ⟨rfl, rfl, rfl⟩
  case round =>
    obtain ⟨rfl, rfl, rfl⟩ := hrel
    go_wp2_with fail
    refine (I1 _).out.mono ?_
    rintro e w' ⟨rfl, rfl⟩
    go_wp2_with fail
    refine (I2 _).out.mono ?_
    rintro e w' ⟨rfl, rfl⟩
    go_wp2_with fail
    go_ret
    exact ⟨rfl, below_alloc (Below.refl _ _) _⟩
set_option maxRecDepth 100000 in
set_option maxHeartbeats 40000000 in
theorem form_no2 (w : World) (g : Nat) (h1 : w.cell? ⟨g, 0, none⟩ = some (.complex .f64 4607182418800017408 0)) (h2 : w.cell? ⟨g, 1, none⟩ = some (.complex .f64 4611686018427387904 4607182418800017408)) :
    Calls Tryd.prog 39 #[.slice (some ⟨g, 0, none⟩) 1 1, .int .i64 2, .int .i64 2] w fun e w' => e = .returned (.bool false) ∧ Below w.heap.size w w' := by
  have I1 := fun W => Lib.hid (show Calls Tryd.prog 61 #[.complex .f64 4607182418800017408 0, .int .i64 2, .int .i64 2] W _ by have h := in_2 1 0 (by decide) (by decide) W; simp only [fl_0, fl_1, fl_2] at h; exact h)
  have I2 := fun W => Lib.hid (show Calls Tryd.prog 61 #[.complex .f64 4611686018427387904 4607182418800017408, .int .i64 2, .int .i64 2] W _ by have h := in_2 2 1 (by decide) (by decide) W; simp only [fl_0, fl_1, fl_2] at h; exact h)
  have s1 := sto_cx 4607182418800017408 0
  have s2 := sto_cx 4611686018427387904 4607182418800017408
  have hA := cx_subt 1 0 0 0 (by decide) (by decide) (by decide) (by decide)
  have hB := cx_subt 2 1 1 0 (by decide) (by decide) (by decide) (by decide)
  simp only [fl_0, fl_1, fl_2, Nat.sub_zero, Nat.sub_self, Nat.reduceSub] at hA hB
  have o0 : (FloatKind.f64.format.order 4607182418800017408 0 != some .eq) = true := by decide +kernel
  have g1 := eq_guardF .neq
  have g2 := eq_guardC .eql
  have c0 := cv_00
  go_enter Tryd.func39, Tryd.ntmps39
  go_wp2_with fail
  go_loopw [16, 7] (fun v16 v7 wr => v16 = .int .i64 0 ∧ v7 = .complex .f64 0 0 ∧ wr = w) (fun _ _ _ => 0)
  case atStart => exact ⟨rfl, rfl, rfl⟩
  case round =>
    obtain ⟨rfl, rfl, rfl⟩ := hrel
    go_wp2_with fail
    refine (I1 _).out.mono ?_
    rintro e w' ⟨rfl, rfl⟩
    go_wp2_with fail
    refine (I2 _).out.mono ?_
    rintro e w' ⟨rfl, rfl⟩
    obtain ⟨W2, hW2⟩ : ∃ W, W = wr.alloc (Obj.cells #[.complex .f64 4607182418800017408 0, .complex .f64 4611686018427387904 4607182418800017408] 38) := ⟨_, rfl⟩
    have k3 : W2.cell? ⟨wr.heap.size, 0, none⟩ = some (.complex .f64 4607182418800017408 0) := by rw [hW2, World.cell?_alloc_at (w := wr) _ _ wr.heap.size 0 rfl]; rfl
    have k4 : W2.cell? ⟨wr.heap.size, 1, none⟩ = some (.complex .f64 4611686018427387904 4607182418800017408) := by rw [hW2, World.cell?_alloc_at (w := wr) _ _ wr.heap.size 1 rfl]; rfl
    have HB2 : Hid (Below wr.heap.size wr W2) := Lib.hid (by rw [hW2]; exact below_alloc (Below.refl _ _) _)
    rw [← hW2]
    clear hW2 h1 h2 I1 I2
    go_wp2_with fail
    go_quiet (fail)
    have k4' : (W2.drewN nq).cell? ⟨wr.heap.size, 1, none⟩ = some (.complex .f64 4611686018427387904 4607182418800017408) := k4
    have HB3 := Lib.hid (pw_below_drewN HB2.out nq)
    clear k3 k4 HB2 hA hB
    generalize W2.drewN nq = W3 at *
    go_wp2_with fail
    go_ret
    exact ⟨rfl, HB3.out⟩
set_option maxRecDepth 100000 in
set_option maxHeartbeats 40000000 in
theorem form_no3 (w : World) (g : Nat) (h1 : w.cell? ⟨g, 0, none⟩ = some (.complex .f64 4607182418800017408 4607182418800017408)) (h2 : w.cell? ⟨g, 1, none⟩ = some (.complex .f64 4611686018427387904 4607182418800017408)) :
    Calls Tryd.prog 39 #[.slice (some ⟨g, 0, none⟩) 1 1, .int .i64 2, .int .i64 2] w fun e w' => e = .returned (.bool false) ∧ Below w.heap.size w w' := by
  have I1 := fun W => Lib.hid (show Calls Tryd.prog 61 #[.complex .f64 4607182418800017408 4607182418800017408, .int .i64 2, .int .i64 2] W _ by have h := in_2 1 1 (by decide) (by decide) W; simp only [fl_0, fl_1, fl_2] at h; exact h)
  have I2 := fun W => Lib.hid (show Calls Tryd.prog 61 #[.complex .f64 4611686018427387904 4607182418800017408, .int .i64 2, .int .i64 2] W _ by have h := in_2 2 1 (by decide) (by decide) W; simp only [fl_0, fl_1, fl_2] at h; exact h)
  have s1 := sto_cx 4607182418800017408 4607182418800017408
  have s2 := sto_cx 4611686018427387904 4607182418800017408
  have hA := cx_subt 1 1 0 0 (by decide) (by decide) (by decide) (by decide)
  have hB := cx_subt 2 1 1 1 (by decide) (by decide) (by decide) (by decide)
  simp only [fl_0, fl_1, fl_2, Nat.sub_zero, Nat.sub_self, Nat.reduceSub] at hA hB
  have o0 : (FloatKind.f64.format.order 4607182418800017408 4607182418800017408 != some .eq) = false := by decide +kernel
  have o1 : (FloatKind.f64.format.order 4607182418800017408 0 == some .lt) = false := by decide +kernel
  have o2 : (FloatKind.f64.format.order 0 0 == some .lt) = false := by decide +kernel
  have o3 : (FloatKind.f64.format.order 4607182418800017408 0 == some .eq && FloatKind.f64.format.order 0 0 == some .eq) = false := by decide +kernel
  have g1 := eq_guardF .neq
  have g2 := eq_guardC .eql
  have c0 := cv_00
  go_enter Tryd.func39, Tryd.ntmps39
  go_wp2_with fail
  go_loopw [16, 7] (fun v16 v7 wr => (v16 = .int .i64 0 ∧ v7 = .complex .f64 0 0 ∧ wr = w) ∨ (v16 = .int .i64 1 ∧ v7 = .complex .f64 4611686018427387904 4607182418800017408 ∧ Hid (Below w.heap.size w wr))) (fun v16 _ _ => 1 - (intOf v16).toNat)
  case atStart => exact .inl ⟨rfl, rfl, rfl⟩
  case round =>
    rcases hrel with ⟨rfl, rfl, rfl⟩ | ⟨rfl, rfl, hbel⟩
    · go_wp2_with fail
      refine (I1 _).out.mono ?_
      rintro e w' ⟨rfl, rfl⟩
      go_wp2_with fail
      refine (I2 _).out.mono ?_
      rintro e w' ⟨rfl, rfl⟩
      obtain ⟨W2, hW2⟩ : ∃ W, W = wr.alloc (Obj.cells #[.complex .f64 4607182418800017408 4607182418800017408, .complex .f64 4611686018427387904 4607182418800017408] 38) := ⟨_, rfl⟩
      have k3 : W2.cell? ⟨wr.heap.size, 0, none⟩ = some (.complex .f64 4607182418800017408 4607182418800017408) := by rw [hW2, World.cell?_alloc_at (w := wr) _ _ wr.heap.size 0 rfl]; rfl
      have k4 : W2.cell? ⟨wr.heap.size, 1, none⟩ = some (.complex .f64 4611686018427387904 4607182418800017408) := by rw [hW2, World.cell?_alloc_at (w := wr) _ _ wr.heap.size 1 rfl]; rfl
      have HB2 : Hid (Below wr.heap.size wr W2) := Lib.hid (by rw [hW2]; exact below_alloc (Below.refl _ _) _)
      rw [← hW2]
      clear hW2 h1 h2 I1 I2
      go_wp2_with fail
      go_quiet (fail)
      have k4' : (W2.drewN nq).cell? ⟨wr.heap.size, 1, none⟩ = some (.complex .f64 4611686018427387904 4607182418800017408) := k4
      have HB3 := Lib.hid (pw_below_drewN HB2.out nq)
      clear k3 k4 HB2 hA hB
      generalize W2.drewN nq = W3 at *
      go_wp2_with fail
      go_roundw
      case rel => exact .inr ⟨rfl, rfl, HB3⟩
      case measure => simp only [intOf]; decide
    · have HP := Lib.hid (show Calls Tryd.prog 34 #[.complex .f64 4611686018427387904 4607182418800017408] wr _ by have h := parts_calls 2 1 (by decide) (by decide) wr; unfold pt at h; simp only [fl_1, fl_2] at h; exact h)
      clear h1 h2 I1 I2 hA hB
      go_wp2_with fail
      refine HP.out.mono ?_
      rintro e w' ⟨rfl, rfl⟩
      go_wp2_with fail
      go_ret
      exact ⟨rfl, hbel.out⟩
set_option maxRecDepth 100000 in
set_option maxHeartbeats 40000000 in
theorem form_no4 (w : World) (g : Nat) (h1 : w.cell? ⟨g, 0, none⟩ = some (.complex .f64 4602678819172646912 4602678819172646912)) (h2 : w.cell? ⟨g, 1, none⟩ = some (.complex .f64 4611686018427387904 4611686018427387904)) :
    Calls Tryd.prog 39 #[.slice (some ⟨g, 0, none⟩) 1 1, .int .i64 2, .int .i64 2] w fun e w' => e = .returned (.bool false) ∧ Below w.heap.size w w' := by
  have I1 := fun W => Lib.hid (inside_half W)
  have s1 := sto_cx 4602678819172646912 4602678819172646912
  have s2 := sto_cx 4611686018427387904 4611686018427387904
  go_enter Tryd.func39, Tryd.ntmps39
  go_wp2_with fail
  go_loopw [16, 7] (fun v16 v7 wr => v16 = .int .i64 0 ∧ v7 = .complex .f64 0 0 ∧ wr = w) (fun _ _ _ => 0)
  case atStart => exact ⟨rfl, rfl, rfl⟩
  case round =>
    obtain ⟨rfl, rfl, rfl⟩ := hrel
    go_wp2_with fail
    refine (I1 _).out.mono ?_
    rintro e w' ⟨rfl, rfl⟩
    go_wp2_with fail
    go_ret
    exact ⟨rfl, below_alloc (Below.refl _ _) _⟩
set_option maxRecDepth 100000 in
set_option maxHeartbeats 40000000 in
theorem form_no5 (w : World) (g : Nat) (h1 : w.cell? ⟨g, 0, none⟩ = some (.complex .f64 13830554455654793216 13830554455654793216)) (h2 : w.cell? ⟨g, 1, none⟩ = some (.complex .f64 4611686018427387904 4611686018427387904)) :
    Calls Tryd.prog 39 #[.slice (some ⟨g, 0, none⟩) 1 1, .int .i64 2, .int .i64 2] w fun e w' => e = .returned (.bool false) ∧ Below w.heap.size w w' := by
  have I1 := fun W => Lib.hid (inside_neg W)
  have s1 := sto_cx 13830554455654793216 13830554455654793216
  have s2 := sto_cx 4611686018427387904 4611686018427387904
  go_enter Tryd.func39, Tryd.ntmps39
  go_wp2_with fail
  go_loopw [16, 7] (fun v16 v7 wr => v16 = .int .i64 0 ∧ v7 = .complex .f64 0 0 ∧ wr = w) (fun _ _ _ => 0)
  case atStart => exact ⟨rfl, rfl, rfl⟩
  case round =>
    obtain ⟨rfl, rfl, rfl⟩ := hrel
    go_wp2_with fail
    refine (I1 _).out.mono ?_
    rintro e w' ⟨rfl, rfl⟩
    go_wp2_with fail
    go_ret
    exact ⟨rfl, below_alloc (Below.refl _ _) _⟩
end Go.Proofs.YtmnpcignolofaaaDoor
