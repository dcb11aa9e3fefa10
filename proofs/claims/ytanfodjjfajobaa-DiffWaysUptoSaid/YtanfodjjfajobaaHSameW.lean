/- codicilref19.SameHunks of equal lists. -/
import Derived.Test.YtanfodjjfajobaaHSameHunk
import Derived.Test.YtanfodjjfajobaaWEqStruct
namespace Go.Proofs.Ytanfodjjfajobaa
set_option linter.unusedVariables false
set_option linter.unusedSimpArgs false
open Go.RowKit Go.Proofs.YtanfodjjfajobaaW.PrintWords Go.Proofs.YtanfodjjfajobaaW.PrintMore
theorem eqI_cx (d x y : Nat) (hx : x ≤ 61) (hy : y ≤ 61) (w : World) : (Op.equalIn (d + 1) 30 (.complex .f64 (fl x) (fl y)) (.complex .f64 (fl x) (fl y))).run Try.prog w = .ok true w := by
  have h1 := fl_eq ⟨x, by omega⟩ ⟨x, by omega⟩
  have h2 := fl_eq ⟨y, by omega⟩ ⟨y, by omega⟩
  simp only [decide_true] at h1 h2
  have g1 : Op.floatEq FloatKind.f64 (fl x) (fl x) = true := h1
  have g2 : Op.floatEq FloatKind.f64 (fl y) (fl y) = true := h2
  simp [Op.equalIn, run_underlying Try.underlying30, g1, g2]
theorem hk_same (x y u v : Nat) (hx : x ≤ 61) (hy : y ≤ 61) (hu : u ≤ 61) (hv : v ≤ 61) (w : World) : (binOp .neq 62 (.agg #[.complex .f64 (fl x) (fl y), .complex .f64 (fl u) (fl v)]) (.agg #[.complex .f64 (fl x) (fl y), .complex .f64 (fl u) (fl v)])).run Try.prog w = .ok (.bool false) w := by
  rw [run_neq_struct]
  have h : (Op.equalIn 10000 62 (.agg #[.complex .f64 (fl x) (fl y), .complex .f64 (fl u) (fl v)]) (.agg #[.complex .f64 (fl x) (fl y), .complex .f64 (fl u) (fl v)])).run Try.prog w = .ok true w := by
    refine eqA_of (d := 9999) Try.underlying62 (by kernel_rfl) ?_
    have e1 := eqI_cx 9998 x y hx hy w
    have e2 := eqI_cx 9998 u v hu hv w
    refine eqf_cons (r := true) (s := true) (a := .complex .f64 (fl x) (fl y)) (b := .complex .f64 (fl x) (fl y)) rfl ?_ ?_ e1 (eqf_last (a := .complex .f64 (fl u) (fl v)) (b := .complex .f64 (fl u) (fl v)) rfl ?_ ?_ e2)
    all_goals rfl
  rw [h]
  rfl
set_option maxRecDepth 20000 in
set_option maxHeartbeats 40000000 in
theorem sameHunks_calls (w : World) (b1 b2 : Nat) (u v : Value) (l : List (Pn × Pn)) (hu : w.ownsRow b1 62 2 u l.length (hc l)) (hv : w.ownsRow b2 62 2 v l.length (hc l)) (hl : l.length ≤ 1000) (hb : ∀ h ∈ l, h.1.1 ≤ 61 ∧ h.1.2 ≤ 61 ∧ h.2.1 ≤ 61 ∧ h.2.2 ≤ 61) :
    Calls Try.prog 18 #[u, v] w fun e w' => e = .returned (.bool true) ∧ ∃ k, w' = w.drewN k := by
  obtain ⟨A, c, rfl⟩ := own_slice hu
  obtain ⟨A2, c2, rfl⟩ := own_slice hv
  have HU := Lib.hid hu
  have HV := Lib.hid hv
  have HB := Lib.hid hb
  have hself : ((l.length : Int) == (l.length : Int)) = true := by simp
  clear hu hv hb
  go_enter Try.func18, Try.ntmps18
  go_wp2_with fail
  go_loopw [13] (fun v13 wr => ∃ i : Nat, v13 = .int .i64 i ∧ i ≤ l.length ∧ Hid (∃ k, wr = w.drewN k)) (fun v13 _ => l.length - (intOf v13).toNat)
  case atStart => exact ⟨0, rfl, by omega, Lib.hid ⟨0, rfl⟩⟩
  case round =>
    obtain ⟨i, rfl, hi, hw⟩ := hrel
    by_cases hlt : i < l.length
    · have i0 : (0 : Int) ≤ (i : Int) := by omega
      have i1 : (i : Int) < (l.length : Int) := by omega
      obtain ⟨g, cap, hg⟩ := own_pos HU.out (by omega)
      injection hg with hg1 _ hg2
      subst hg1 hg2
      obtain ⟨g', cap, hg⟩ := own_pos HV.out (by omega)
      injection hg with hg1 _ hg2
      subst hg1 hg2
      have hc1 := own_cells2 HU.out i hlt
      have hc2 := own_cells2 HV.out i hlt
      have hbd := HB.out (l.getD i ((0, 0), (0, 0))) (by
        rw [List.getD_eq_getElem?_getD, List.getElem?_eq_getElem hlt]
        exact List.getElem_mem hlt)
      generalize l.getD i ((0, 0), (0, 0)) = h at hc1 hc2 hbd
      obtain ⟨⟨p1, p2⟩, ⟨q1, q2⟩⟩ := h
      have hsm := hk_same p1 p2 q1 q2 hbd.1 hbd.2.1 hbd.2.2.1 hbd.2.2.2
      have k1 : wr.cell? ⟨g, i * 2, none⟩ = some (.complex .f64 (fl p1) (fl p2)) := by obtain ⟨k, rfl⟩ := hw.out; exact hc1.1
      have k2 : wr.cell? ⟨g, i * 2 + 1, none⟩ = some (.complex .f64 (fl q1) (fl q2)) := by obtain ⟨k, rfl⟩ := hw.out; exact hc1.2
      have k3 : wr.cell? ⟨g', i * 2, none⟩ = some (.complex .f64 (fl p1) (fl p2)) := by obtain ⟨k, rfl⟩ := hw.out; exact hc2.1
      have k4 : wr.cell? ⟨g', i * 2 + 1, none⟩ = some (.complex .f64 (fl q1) (fl q2)) := by obtain ⟨k, rfl⟩ := hw.out; exact hc2.2
      clear hc1 hc2 hbd
      go_wp2_with fail
      go_quiet (fail)
      go_wp2_with fail
      go_roundw
      case rel =>
        obtain ⟨k, rfl⟩ := hw.out
        exact ⟨i + 1, by go_num, by omega, Lib.hid ⟨k + nq, World.drewN_drewN _ _ _⟩⟩
      case measure => simp [intOf]; omega
    · obtain rfl : i = l.length := by omega
      go_wp2_with fail
      go_ret
      exact ⟨rfl, hw.out⟩
end Go.Proofs.Ytanfodjjfajobaa
