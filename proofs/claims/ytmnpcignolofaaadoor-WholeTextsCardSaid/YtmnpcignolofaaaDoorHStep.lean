/- diff's way: the step from a point. -/
import Derived.Test.YtmnpcignolofaaaDoorHWay
namespace Go.Proofs.YtmnpcignolofaaaDoor
set_option linter.unusedVariables false
set_option linter.unusedSimpArgs false
open Go.RowKit Go.Proofs.YtmnpcignolofaaaDoorW.PrintWords Go.Proofs.YtmnpcignolofaaaDoorW.PrintMore
def stepN (al bl T : List Int) (x y : Nat) : Nat × Nat :=
  if x < al.length ∧ y < bl.length ∧ al.getD x 0 = bl.getD y 0 then (1, 1) else
    if x < al.length ∧ (y = bl.length ∨ T.getD ((x + 1) * (bl.length + 1) + y) 0 ≤ T.getD (x * (bl.length + 1) + (y + 1)) 0) then (1, 0) else (0, 1)
theorem pt_11 : pt (1, 1) = .complex .f64 4607182418800017408 4607182418800017408 := by unfold pt; rw [fl_1]
theorem pt_10 : pt (1, 0) = .complex .f64 4607182418800017408 0 := by unfold pt; rw [fl_1, fl_0]
theorem pt_01 : pt (0, 1) = .complex .f64 0 4607182418800017408 := by unfold pt; rw [fl_1, fl_0]
set_option maxRecDepth 8000 in
set_option maxHeartbeats 4000000 in
theorem step_calls (base g R : Nat) (Aa : Option Addr) (ca : Nat) (Ab : Option Addr) (cb : Nat) (al bl T : List Int) (W : World) (h : Pl base g R Aa ca Ab cb al bl T W) (ha : al.length ≤ 1000) (hb : bl.length ≤ 1000) (x y : Nat) (hx : x ≤ al.length) (hy : y ≤ bl.length) (hxy : ¬ (x = al.length ∧ y = bl.length)) :
    Calls Tryd.prog 58 #[.pointer (some ⟨g, 0, none⟩), pt (x, y)] W fun e w' => e = .returned (pt (stepN al bl T x y)) ∧ ∃ k, w' = W.drewN k := by
  have c0 : W.cell? ⟨g, 0, none⟩ = some (.slice Aa al.length ca) := blk_cell h.blk 0
  have c1 : W.cell? ⟨g, 1, none⟩ = some (.slice Ab bl.length cb) := blk_cell h.blk 1
  have HP := Lib.hid h
  have HPA := Lib.hid (parts_calls x y (by omega) (by omega) W)
  clear h
  generalize hpt : pt (x, y) = z at HPA ⊢
  clear hpt
  have x0 : (0 : Int) ≤ (x : Int) := by omega
  have y0 : (0 : Int) ≤ (y : Int) := by omega
  by_cases h1 : x < al.length
  · have i1 : (x : Int) < (al.length : Int) := by omega
    by_cases h2 : y < bl.length
    · have i2 : (y : Int) < (bl.length : Int) := by omega
      have i3 : ((y : Int) == (bl.length : Int)) = false := by simp; omega
      obtain ⟨aa, hAa, ka⟩ := row_cell HP.out.a x h1
      obtain ⟨ab, hAb, kb⟩ := row_cell HP.out.b y h2
      subst hAa hAb
      by_cases h3 : al.getD x 0 = bl.getD y 0
      · have e : stepN al bl T x y = (1, 1) := by unfold stepN; rw [if_pos ⟨h1, h2, h3⟩]
        rw [e, pt_11]
        rw [← h3] at kb
        have heq : (al.getD x 0 == al.getD x 0) = true := by simp
        generalize al.getD x 0 = u at ka kb heq
        clear e h1 h2 h3 hxy i3
        go_enter Tryd.func58, Tryd.ntmps58
        go_wp2_with fail
        refine HPA.out.mono ?_
        rintro e w2 ⟨rfl, rfl⟩
        go_wp2_with fail
        go_quiet (fail)
        go_wp2_with fail
        go_ret
        exact ⟨rfl, nq, rfl⟩
      · have heq : (al.getD x 0 == bl.getD y 0) = false := by simpa using h3
        obtain ⟨q1, hq1⟩ : ∃ q, q = (x + 1) * (bl.length + 1) + y := ⟨_, rfl⟩
        obtain ⟨q2, hq2⟩ : ∃ q, q = x * (bl.length + 1) + (y + 1) := ⟨_, rfl⟩
        have e : stepN al bl T x y = if T.getD q1 0 ≤ T.getD q2 0 then (1, 0) else (0, 1) := by
          unfold stepN
          rw [if_neg (fun h => h3 h.2.2), ← hq1, ← hq2]
          by_cases h5 : T.getD q1 0 ≤ T.getD q2 0
          · rw [if_pos ⟨h1, .inr h5⟩, if_pos h5]
          · rw [if_neg (fun h => by rcases h.2 with h | h; exact absurd h (by omega); exact h5 h), if_neg h5]
        rw [e]
        have hl1 : q1 < T.length := by rw [hq1, HP.out.len]; exact pl_at _ _ _ _ (by omega) (by omega)
        have hl2 : q2 < T.length := by rw [hq2, HP.out.len]; exact pl_at _ _ _ _ (by omega) (by omega)
        have kc1 := (HP.out.cell q1 hl1).1
        have kc2 := (HP.out.cell q2 hl2).1
        have AT1 : Hid (∀ (X Y : Int), X = ((x + 1 : Nat) : Int) → Y = (y : Int) → ∀ (w : World), (∃ n, w = W.drewN n) → Calls Tryd.prog 38 #[.pointer (some ⟨g, 0, none⟩), .int .i64 X, .int .i64 Y] w fun e w' => e = .returned (.pointer (some ⟨R, q1, none⟩)) ∧ ∃ k, w' = w.drewN k) := Lib.hid fun X Y hX hY w hw => by
          obtain ⟨n, rfl⟩ := hw
          rw [hq1]
          exact at_calls base g R _ ca _ cb al bl T _ (HP.out.drewN n) (by omega) (by omega) (x + 1) y (by omega) (by omega) _ _ hX hY
        have AT2 : Hid (∀ (X Y : Int), X = (x : Int) → Y = ((y + 1 : Nat) : Int) → ∀ (w : World), (∃ n, w = W.drewN n) → Calls Tryd.prog 38 #[.pointer (some ⟨g, 0, none⟩), .int .i64 X, .int .i64 Y] w fun e w' => e = .returned (.pointer (some ⟨R, q2, none⟩)) ∧ ∃ k, w' = w.drewN k) := Lib.hid fun X Y hX hY w hw => by
          obtain ⟨n, rfl⟩ := hw
          rw [hq2]
          exact at_calls base g R _ ca _ cb al bl T _ (HP.out.drewN n) (by omega) (by omega) x (y + 1) (by omega) (by omega) _ _ hX hY
        generalize T.getD q1 0 = u1 at kc1 ⊢
        generalize T.getD q2 0 = u2 at kc2 ⊢
        generalize al.getD x 0 = u at ka heq
        generalize bl.getD y 0 = v at kb heq
        clear e h3 hq1 hq2 hl1 hl2 hxy
        have hx1 : (x : Int) ≤ 1000 := by omega
        have hy1 : (y : Int) ≤ 1000 := by omega
        clear h1 h2
        by_cases hu : u1 ≤ u2
        · rw [if_pos hu, pt_10]
          have hu2 : decide (u1 ≤ u2) = true := by simpa using hu
          go_enter Tryd.func58, Tryd.ntmps58
          go_wp2_with fail
          refine HPA.out.mono ?_
          rintro e w2 ⟨rfl, rfl⟩
          go_wp2_with fail
          go_quiet (fail)
          have HW2 : Hid (∃ n, w2.drewN nq = w2.drewN n) := Lib.hid ⟨nq, rfl⟩
          have d0 : (w2.drewN nq).cell? ⟨g, 0, none⟩ = some (.slice (some aa) al.length ca) := c0
          have d1 : (w2.drewN nq).cell? ⟨g, 1, none⟩ = some (.slice (some ab) bl.length cb) := c1
          have d2 : (w2.drewN nq).cell? ⟨R, q1, none⟩ = some (.int .i32 u1) := kc1
          have d3 : (w2.drewN nq).cell? ⟨R, q2, none⟩ = some (.int .i32 u2) := kc2
          have BT1 := Lib.hid (fun X Y hX hY n => AT1.out X Y hX hY ((w2.drewN nq).drewN n) ⟨_, World.drewN_drewN _ _ _⟩)
          have BT2 := Lib.hid (fun X Y hX hY n => AT2.out X Y hX hY ((w2.drewN nq).drewN n) ⟨_, World.drewN_drewN _ _ _⟩)
          clear c0 c1 ka kb kc1 kc2
          generalize w2.drewN nq = W2 at HW2 d0 d1 d2 d3 BT1 BT2 ⊢
          go_wp2_with fail
          go_quiet (first | (refine Calls.quiet_of (BT1.out _ _ ?_ ?_ _) <;> (first | omega | (rw [IntKind.wrap_i64]; omega))) | (refine Calls.quiet_of (BT2.out _ _ ?_ ?_ _) <;> (first | omega | (rw [IntKind.wrap_i64]; omega))))
          go_wp2_with fail
          go_ret
          obtain ⟨k3, rfl⟩ := HW2.out
          exact ⟨rfl, k3 + nq, World.drewN_drewN _ _ _⟩
        · rw [if_neg hu, pt_01]
          have hu2 : decide (u1 ≤ u2) = false := by simpa using hu
          go_enter Tryd.func58, Tryd.ntmps58
          go_wp2_with fail
          refine HPA.out.mono ?_
          rintro e w2 ⟨rfl, rfl⟩
          go_wp2_with fail
          go_quiet (fail)
          have HW2 : Hid (∃ n, w2.drewN nq = w2.drewN n) := Lib.hid ⟨nq, rfl⟩
          have d0 : (w2.drewN nq).cell? ⟨g, 0, none⟩ = some (.slice (some aa) al.length ca) := c0
          have d1 : (w2.drewN nq).cell? ⟨g, 1, none⟩ = some (.slice (some ab) bl.length cb) := c1
          have d2 : (w2.drewN nq).cell? ⟨R, q1, none⟩ = some (.int .i32 u1) := kc1
          have d3 : (w2.drewN nq).cell? ⟨R, q2, none⟩ = some (.int .i32 u2) := kc2
          have BT1 := Lib.hid (fun X Y hX hY n => AT1.out X Y hX hY ((w2.drewN nq).drewN n) ⟨_, World.drewN_drewN _ _ _⟩)
          have BT2 := Lib.hid (fun X Y hX hY n => AT2.out X Y hX hY ((w2.drewN nq).drewN n) ⟨_, World.drewN_drewN _ _ _⟩)
          clear c0 c1 ka kb kc1 kc2
          generalize w2.drewN nq = W2 at HW2 d0 d1 d2 d3 BT1 BT2 ⊢
          go_wp2_with fail
          go_quiet (first | (refine Calls.quiet_of (BT1.out _ _ ?_ ?_ _) <;> (first | omega | (rw [IntKind.wrap_i64]; omega))) | (refine Calls.quiet_of (BT2.out _ _ ?_ ?_ _) <;> (first | omega | (rw [IntKind.wrap_i64]; omega))))
          go_wp2_with fail
          go_ret
          obtain ⟨k3, rfl⟩ := HW2.out
          exact ⟨rfl, k3 + nq, World.drewN_drewN _ _ _⟩
    · have i2 : ¬ (y : Int) < (bl.length : Int) := by omega
      have i4 : decide ((y : Int) < (bl.length : Int)) = false := by simp; omega
      have i5 : decide (y < bl.length) = false := by simp; omega
      have i3 : ((y : Int) == (bl.length : Int)) = true := by simp; omega
      have e : stepN al bl T x y = (1, 0) := by unfold stepN; rw [if_neg (fun h => h2 h.2.1), if_pos ⟨h1, .inl (by omega)⟩]
      rw [e, pt_10]
      clear e h1 h2 hxy
      go_enter Tryd.func58, Tryd.ntmps58
      go_wp2_with fail
      refine HPA.out.mono ?_
      rintro e w2 ⟨rfl, rfl⟩
      go_wp2_with fail
      go_quiet (fail)
      have d0 : (w2.drewN nq).cell? ⟨g, 0, none⟩ = some (.slice Aa al.length ca) := c0
      have d1 : (w2.drewN nq).cell? ⟨g, 1, none⟩ = some (.slice Ab bl.length cb) := c1
      have HW2 : Hid (∃ n, w2.drewN nq = w2.drewN n) := Lib.hid ⟨nq, rfl⟩
      generalize hW2 : w2.drewN nq = W2 at HW2 d0 d1 ⊢
      clear c0 c1 hW2
      go_wp2_with fail
      go_quiet (fail)
      go_wp2_with fail
      go_ret
      obtain ⟨k3, rfl⟩ := HW2.out
      exact ⟨rfl, k3 + nq, World.drewN_drewN _ _ _⟩
  · have i1 : ¬ (x : Int) < (al.length : Int) := by omega
    have i4 : decide ((x : Int) < (al.length : Int)) = false := by simp; omega
    have i5 : decide (x < al.length) = false := by simp; omega
    have e : stepN al bl T x y = (0, 1) := by unfold stepN; rw [if_neg (fun h => h1 h.1), if_neg (fun h => h1 h.1)]
    rw [e, pt_01]
    clear e h1 hxy
    go_enter Tryd.func58, Tryd.ntmps58
    go_wp2_with fail
    refine HPA.out.mono ?_
    rintro e w2 ⟨rfl, rfl⟩
    go_wp2_with fail
    go_quiet (fail)
    have d0 : (w2.drewN nq).cell? ⟨g, 0, none⟩ = some (.slice Aa al.length ca) := c0
    have d1 : (w2.drewN nq).cell? ⟨g, 1, none⟩ = some (.slice Ab bl.length cb) := c1
    have HW2 : Hid (∃ n, w2.drewN nq = w2.drewN n) := Lib.hid ⟨nq, rfl⟩
    generalize hW2 : w2.drewN nq = W2 at HW2 d0 d1 ⊢
    clear c0 c1 hW2
    go_wp2_with fail
    go_quiet (fail)
    go_wp2_with fail
    go_ret
    obtain ⟨k3, rfl⟩ := HW2.out
    exact ⟨rfl, k3 + nq, World.drewN_drewN _ _ _⟩
end Go.Proofs.YtmnpcignolofaaaDoor
