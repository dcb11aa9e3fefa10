-- Written by fprint.py, a program of this session, over the translation. Not trusted: Lean checks it.
import Derived.Test.YtiocipmnmjpkfaaPDFx0
namespace Go.Proofs.Ytiocipmnmjpkfaa.PDF
open Go.RowKit Go.Proofs.YtiocipmnmjpkfaaW.PrintWords Go.Proofs.YtiocipmnmjpkfaaW.PrintLast Go.Proofs.YtiocipmnmjpkfaaW.PrintMore
attribute [local go_sem] max2_int min2_int max_two min_two max_three min_three max_four min_four   -- for this text's walks alone
set_option linter.unusedVariables false
set_option linter.unusedSimpArgs false

/-! ### codicilref01_Same: function 21 -/
def codicilref01_Same.f (l0 : List Int) (l1 : List Int) : Option (Bool) := some ((strOfNums l0).toList == (strOfNums l1).toList)
set_option maxHeartbeats 8000000 in
set_option maxRecDepth 100000 in
theorem codicilref01_Same.calls (A0 : Option Addr) (c0 : Nat) (l0 : List Int) (A1 : Option Addr) (c1 : Nat) (l1 : List Int) (r : Bool) (w : World) (hr0 : Kd.C (Kd.int .u8) w A0 l0.length l0) (hc0 : l0.length ≤ c0) (hr1 : Kd.C (Kd.int .u8) w A1 l1.length l1) (hc1 : l1.length ≤ c1) (h : codicilref01_Same.f l0 l1 = some r) :
    Calls Try.prog 21 #[.slice A0 l0.length c0, .slice A1 l1.length c1] w fun e w' => e = .returned (.bool r) ∧ Drawn0 w w' := by
  have HR0 := Aside0.mk hr0
  have HC0 := Aside0.mk hc0
  clear hr0 hc0
  have HR1 := Aside0.mk hr1
  have HC1 := Aside0.mk hc1
  clear hr1 hc1
  have H : (some ((strOfNums l0).toList == (strOfNums l1).toList)) = some r := h
  clear h
  obtain rfl := Option.some.inj H
  have hcv3 := Kd.C_string (P := Try.prog) (A := A0) (c := c0) Try.underlying22 Try.underlying5 Try.underlying9 HR0.out
  have hcv4 := Kd.C_string (P := Try.prog) (A := A1) (c := c1) Try.underlying22 Try.underlying5 Try.underlying9 HR1.out
  go_enter Try.func21, Try.ntmps21
  go_wp2
  go_ret
  exact ⟨by first | rfl | (simp; done) | (simp [*]; done), by repeat (first | exact Drawn0.refl _ | apply Drawn0.step)⟩

-- NOT PRINTED: function 61 (slices_IndexFunc_byte_byte)

-- NOT PRINTED: function 47 (num_groups)

/-! ### bits_Len64: function 43 -/
def bits_Len64.f (a0 : Int) : Option (Int) := if 0 ≤ a0 ∧ a0 < 18446744073709551616 then some (lenI a0) else none
theorem bits_Len64.calls (a0 : Int) (r : Int) (w : World) (h : bits_Len64.f a0 = some r) :
    Calls Try.prog 43 #[.int .u64 a0] w fun e w' => e = .returned (.int .i64 r) ∧ Drawn0 w w' := by
  unfold bits_Len64.f at h
  split at h
  · rename_i hb
    obtain rfl := Option.some.inj h
    exact (len64_calls a0 w hb.1 hb.2).mono fun e w' ⟨he, hw⟩ => ⟨he, by subst hw; exact Drawn0.refl _⟩
  · cases h


/-! ### num_sum: function 48 -/
mutual
def num_sum.l0 : Nat → Int → Int → List Int → Int → Int → Option (Int × Bool)
  | 0, _, _, _, _, _ => none
  | k + 1, x1, x6, x11, x12, x13 => if x13 < x12 then (if 0 ≤ x13 then (if x13 < (x11.length : Int) then (if (IntKind.u64.wrap (Go.bits .and .u8 (rd x11 x13) 127)) = 0 then (num_sum.j1 k x1 x6 (IntKind.u64.wrap (Go.bits .and .u8 (rd x11 x13) 127)) (wrap64 (x1 + (wrap64 (7 * x13)))) x11 x12 x13 false) else ((bits_Len64.f (IntKind.u64.wrap (Go.bits .and .u8 (rd x11 x13) 127))).bind fun t103 => (num_sum.j1 k x1 x6 (IntKind.u64.wrap (Go.bits .and .u8 (rd x11 x13) 127)) (wrap64 (x1 + (wrap64 (7 * x13)))) x11 x12 x13 (decide ((wrap64 ((wrap64 (x1 + (wrap64 (7 * x13)))) + t103)) > 64))))) else (none)) else (none)) else (some (x6, true))
def num_sum.j1 : Nat → Int → Int → Int → Int → List Int → Int → Int → Bool → Option (Int × Bool)
  | 0, _, _, _, _, _, _, _, _ => none
  | k + 1, x1, x6, x9, x10, x11, x12, x13, x33 => if x33 = true then (some (0, false)) else (if x10 < 64 then (if 0 ≤ x10 then (num_sum.l0 k x1 (Go.bits .or .u64 x6 (shl .u64 x9 x10)) x11 x12 (wrap64 (x13 + 1))) else (none)) else (num_sum.l0 k x1 x6 x11 x12 (wrap64 (x13 + 1))))
end
def num_sum.f (k : Nat) (l0 : List Int) (a1 : Int) : Option (Int × Bool) := num_sum.l0 k a1 0 l0 (l0.length : Int) 0
theorem num_sum.mono_l : ∀ k, (∀ y0 y1 y2 y3 y4, LeO (num_sum.l0 k y0 y1 y2 y3 y4) (num_sum.l0 (k + 1) y0 y1 y2 y3 y4)) ∧ (∀ y0 y1 y2 y3 y4 y5 y6 y7, LeO (num_sum.j1 k y0 y1 y2 y3 y4 y5 y6 y7) (num_sum.j1 (k + 1) y0 y1 y2 y3 y4 y5 y6 y7))
  | 0 => ⟨fun _ _ _ _ _ r h => by simp [num_sum.l0] at h, fun _ _ _ _ _ _ _ _ r h => by simp [num_sum.j1] at h⟩
  | k + 1 => by
    obtain ⟨ih0, ih1⟩ := num_sum.mono_l k
    refine ⟨?_, ?_⟩
    · intro y0 y1 y2 y3 y4
      unfold num_sum.l0
      repeat' first
      | (with_reducible exact ih0 _ _ _ _ _)
      | (with_reducible exact ih1 _ _ _ _ _ _ _ _)
      | (with_reducible exact LeO.refl _)
      | (with_reducible exact LeO.none _)
      | (with_reducible refine LeO.ite ?_ ?_)
      | (with_reducible refine LeO.bind ?_ (fun _ => ?_))
      | exact ih0 _ _ _ _ _
      | exact ih1 _ _ _ _ _ _ _ _
      | exact LeO.none _
      | refine LeO.ite ?_ ?_
      | refine LeO.bind ?_ (fun _ => ?_)
    · intro y0 y1 y2 y3 y4 y5 y6 y7
      unfold num_sum.j1
      repeat' first
      | (with_reducible exact ih0 _ _ _ _ _)
      | (with_reducible exact ih1 _ _ _ _ _ _ _ _)
      | (with_reducible exact LeO.refl _)
      | (with_reducible exact LeO.none _)
      | (with_reducible refine LeO.ite ?_ ?_)
      | (with_reducible refine LeO.bind ?_ (fun _ => ?_))
      | exact ih0 _ _ _ _ _
      | exact ih1 _ _ _ _ _ _ _ _
      | exact LeO.none _
      | refine LeO.ite ?_ ?_
      | refine LeO.bind ?_ (fun _ => ?_)
theorem num_sum.mono : ∀ a0 a1 k, LeO (num_sum.f k a0 a1) (num_sum.f (k + 1) a0 a1) := by
  intro a0 a1 k
  obtain ⟨ih0, ih1⟩ := num_sum.mono_l k
  unfold num_sum.f
  repeat' first
      | (with_reducible exact ih0 _ _ _ _ _)
      | (with_reducible exact ih1 _ _ _ _ _ _ _ _)
      | (with_reducible exact LeO.refl _)
      | (with_reducible exact LeO.none _)
      | (with_reducible refine LeO.ite ?_ ?_)
      | (with_reducible refine LeO.bind ?_ (fun _ => ?_))
      | exact ih0 _ _ _ _ _
      | exact ih1 _ _ _ _ _ _ _ _
      | exact LeO.none _
      | refine LeO.ite ?_ ?_
      | refine LeO.bind ?_ (fun _ => ?_)
set_option maxHeartbeats 8000000 in
set_option maxRecDepth 100000 in
theorem num_sum.calls (k : Nat) (A0 : Option Addr) (c0 : Nat) (l0 : List Int) (a1 : Int) (r1 : Int) (r2 : Bool) (w : World) (hr0 : Kd.C (Kd.int .u8) w A0 l0.length l0) (hc0 : l0.length ≤ c0) (h : num_sum.f k l0 a1 = some (r1, r2)) :
    Calls Try.prog 48 #[.slice A0 l0.length c0, .int .i64 a1] w fun e w' => e = .returned (.tuple #[.int .u64 r1, .bool r2]) ∧ Drawn0 w w' := by
  have HR0 := Aside0.mk hr0
  have HC0 := Aside0.mk hc0
  clear hr0 hc0
  have H : (num_sum.l0 k a1 0 l0 (l0.length : Int) 0) = some (r1, r2) := h
  clear h
  have H' := Aside0.mk H
  clear H
  go_enter Try.func48, Try.ntmps48
  go_wp2
  go_loopg [6, 13] k (fun kq v6 v13 w' => ∃ (x6_1 : Int) (x13_1 : Int), v6 = .int .u64 x6_1 ∧ v13 = .int .i64 x13_1 ∧ Aside0 (num_sum.l0 kq a1 x6_1 l0 (l0.length : Int) x13_1 = some (r1, r2)) ∧ Aside0 (kq ≤ k) ∧ Drawn0 w w')
  case atStart => exact ⟨(0), (0), (by first | rfl | (simp; done) | (simp [*]; done)), (by first | rfl | (simp; done) | (simp [*]; done)), H', ⟨Nat.le_refl _⟩, by repeat (first | exact Drawn0.refl _ | apply Drawn0.step)⟩
  case round =>
    clear H'
    try clear p2
    obtain ⟨x6_1, x13_1, rfl, rfl, HA, HK1, ⟨m1, rfl⟩⟩ := hrel
    cases gk with
    | zero => exact absurd HA.out (by simp [num_sum.l0])
    | succ k1 =>
      have H := HA.out
      clear HA
      simp only [num_sum.l0] at H
      by_cases c3 : x13_1 < (l0.length : Int)
      · rw [if_pos c3] at H
        have c3b0 : decide (x13_1 < (l0.length : Int)) = true := decide_eq_true c3
        clear c3
        by_cases c4 : 0 ≤ x13_1
        · rw [if_pos c4] at H
          have c4b0 : decide (0 ≤ x13_1) = true := decide_eq_true c4
          clear c4
          by_cases c5 : x13_1 < (l0.length : Int)
          · rw [if_pos c5] at H
            have c5b0 : decide (x13_1 < (l0.length : Int)) = true := decide_eq_true c5
            clear c5
            have HC6 := Aside0.mk H
            clear H
            have p102 : 0 ≤ (x13_1 : Int) := of_decide_eq_true (by first | (with_reducible assumption) | assumption)
            have q102 : x13_1 < (l0.length : Int) := of_decide_eq_true (by first | (with_reducible assumption) | assumption)
            obtain ⟨ad102, e102, hx102_0⟩ := Kd.at_int HR0.out x13_1 p102 q102
            cases e102
            replace p102 := eq_true p102
            replace q102 := eq_true q102
            go_upto_region 7 with (fail)
            go_cut [33] (fun v33 wc => ∃ (kq : Nat) (x33_5 : Bool), v33 = .bool x33_5 ∧ Aside0 (num_sum.j1 kq a1 x6_1 (IntKind.u64.wrap (Go.bits .and .u8 (rd l0 x13_1) 127)) (wrap64 (a1 + (wrap64 (7 * x13_1)))) l0 (l0.length : Int) x13_1 x33_5 = some (r1, r2)) ∧ Aside0 (kq ≤ k1) ∧ Drawn0 w wc)
            case first =>
              have H := HC6.out
              clear HC6
              by_cases c7 : (IntKind.u64.wrap (Go.bits .and .u8 (rd l0 x13_1) 127)) = 0
              · rw [if_pos c7] at H
                have c7b0 : ((IntKind.u64.wrap (Go.bits .and .u8 (rd l0 x13_1) 127)) == 0) = true := beq_iff_eq.mpr c7
                have c7b1 : ((IntKind.u64.wrap (Go.bits .and .u8 (rd l0 x13_1) 127)) != 0) = false := bne_eq_false_iff_eq.mpr c7
                clear c7
                (first | rw [c7b0] | (simp only [i64_w, i32_w]; rw [c7b0]) | skip)
                have H' := Aside0.mk H
                clear H
                go_wp2
                go_meet
                case rel => exact ⟨_, (false), (by first | rfl | (simp; done) | (simp [*]; done)), H', ⟨by have := HK1.out; first | omega | exact Nat.le_refl _⟩, by repeat (first | exact Drawn0.refl _ | apply Drawn0.step)⟩
              · rw [if_neg c7] at H
                have c7b0 : ((IntKind.u64.wrap (Go.bits .and .u8 (rd l0 x13_1) 127)) == 0) = false := beq_eq_false_iff_ne.mpr c7
                have c7b1 : ((IntKind.u64.wrap (Go.bits .and .u8 (rd l0 x13_1) 127)) != 0) = true := bne_iff_ne.mpr c7
                (first | rw [c7b0] | (simp only [i64_w, i32_w]; rw [c7b0]) | skip)
                replace H := Option.bind_eq_some_iff.mp H
                obtain ⟨t103, A80, H⟩ := H
                replace H : (num_sum.j1 k1 a1 x6_1 (IntKind.u64.wrap (Go.bits .and .u8 (rd l0 x13_1) 127)) (wrap64 (a1 + (wrap64 (7 * x13_1)))) l0 (l0.length : Int) x13_1 (decide ((wrap64 ((wrap64 (a1 + (wrap64 (7 * x13_1)))) + t103)) > 64))) = some (r1, r2) := H
                have A8 := Aside0.mk A80
                clear A80
                have H' := Aside0.mk H
                clear H
                go_wp2_with (first | (go_at_call 43; (with_reducible refine (bits_Len64.calls (IntKind.u64.wrap (Go.bits .and .u8 (rd l0 x13_1) 127)) t103 _ A8.out).mono ?_); rintro e w' ⟨rfl, ⟨nd, rfl⟩⟩))
                go_meet
                case rel => exact ⟨_, (decide ((wrap64 ((wrap64 (a1 + (wrap64 (7 * x13_1)))) + t103)) > 64)), (by first | rfl | (simp; done) | (simp [*]; done)), H', ⟨by have := HK1.out; first | omega | exact Nat.le_refl _⟩, by repeat (first | exact Drawn0.refl _ | apply Drawn0.step)⟩
            case rest =>
              clear HC6
              try clear p1
              try clear q1
              try clear hx1
              try clear p2
              try clear c3
              try clear c3b0
              try clear c4
              try clear c4b0
              try clear c5
              try clear c5b0
              try clear p6
              try clear c7
              try clear c7b0
              try clear c7b1
              try clear hx102_0
              try clear p102
              try clear p2
              try clear q102
              obtain ⟨kq, x33_5, rfl, HA, HJ5, ⟨mc5, rfl⟩⟩ := hcut
              cases kq with
              | zero => exact absurd HA.out (by simp [num_sum.j1])
              | succ kj5 =>
                have H := HA.out
                clear HA
                simp only [num_sum.j1] at H
                by_cases c9 : x33_5 = true
                · subst c9
                  have H1 : (some (0, false)) = some (r1, r2) := by rw [if_pos rfl] at H; exact H
                  clear H
                  have H := H1
                  clear H1
                  simp only [Option.some.injEq, Prod.mk.injEq] at H
                  obtain ⟨rfl, rfl⟩ := H
                  go_wp2
                  go_ret2
                  exact ⟨by first | rfl | (simp; done) | (simp [*]; done), by repeat (first | exact Drawn0.refl _ | apply Drawn0.step)⟩
                · replace c9 := Bool.eq_false_iff.mpr c9
                  subst c9
                  have H1 : (if (wrap64 (a1 + (wrap64 (7 * x13_1)))) < 64 then (if 0 ≤ (wrap64 (a1 + (wrap64 (7 * x13_1)))) then (num_sum.l0 kj5 a1 (Go.bits .or .u64 x6_1 (shl .u64 (IntKind.u64.wrap (Go.bits .and .u8 (rd l0 x13_1) 127)) (wrap64 (a1 + (wrap64 (7 * x13_1)))))) l0 (l0.length : Int) (wrap64 (x13_1 + 1))) else (none)) else (num_sum.l0 kj5 a1 x6_1 l0 (l0.length : Int) (wrap64 (x13_1 + 1)))) = some (r1, r2) := by rw [if_neg (show ¬ (false = true) by decide)] at H; exact H
                  clear H
                  have H := H1
                  clear H1
                  by_cases c10 : (wrap64 (a1 + (wrap64 (7 * x13_1)))) < 64
                  · rw [if_pos c10] at H
                    have c10b0 : decide ((wrap64 (a1 + (wrap64 (7 * x13_1)))) < 64) = true := decide_eq_true c10
                    clear c10
                    obtain ⟨ji11, hji11⟩ : ∃ j_ : Int, (wrap64 (a1 + (wrap64 (7 * x13_1)))) = j_ := ⟨_, rfl⟩
                    replace H : (if 0 ≤ (ji11) then (num_sum.l0 kj5 a1 (Go.bits .or .u64 x6_1 (shl .u64 (IntKind.u64.wrap (Go.bits .and .u8 (rd l0 x13_1) 127)) (ji11))) l0 (l0.length : Int) (wrap64 (x13_1 + 1))) else (none)) = some (r1, r2) := by first | (rw [hji11] at H; exact H) | (simp only [hji11] at H ⊢; exact H)
                    (try rw [hji11] at c10b0)
                    have hji11w : (IntKind.i64.wrap (a1 + (wrap64 (7 * x13_1)))) = ji11 := (i64_w _).trans hji11
                    by_cases c12 : 0 ≤ (ji11)
                    · rw [if_pos c12] at H
                      have c12b0 := eq_true c12
                      have c12b1 : decide (0 ≤ (ji11)) = true := decide_eq_true c12
                      clear c12
                      obtain ⟨ji13, hji13⟩ : ∃ j_ : Int, (shl .u64 (IntKind.u64.wrap (Go.bits .and .u8 (rd l0 x13_1) 127)) (ji11)) = j_ := ⟨_, rfl⟩
                      replace H : (num_sum.l0 kj5 a1 (Go.bits .or .u64 x6_1 (ji13)) l0 (l0.length : Int) (wrap64 (x13_1 + 1))) = some (r1, r2) := by first | (rw [hji13] at H; exact H) | (simp only [hji13] at H ⊢; exact H)
                      have hji13_ : (IntKind.u64.wrap ((IntKind.u64.wrap (Go.bits .and .u8 (rd l0 x13_1) 127)) * 2 ^ min (ji11).toNat 64)) = ji13 := hji13
                      have hji13z : (ji11) ≤ 64 → (IntKind.u64.wrap ((IntKind.u64.wrap (Go.bits .and .u8 (rd l0 x13_1) 127)) * 2 ^ (ji11).toNat)) = ji13 := shl_small hji13
                      have H' := Aside0.mk H
                      clear H
                      go_wp2
                      go_roundg kj5
                      case measure => have := HK1.out; have := HJ5.out; omega
                      case rel => exact ⟨(Go.bits .or .u64 x6_1 (ji13)), (wrap64 (x13_1 + 1)), (by first | rfl | (simp; done) | (simp only [← hji13] <;> (first | rfl | simp)) | (simp [*]; done)), (by first | rfl | (simp; done) | (simp [*]; done)), H', ⟨by have := HK1.out; have := HJ5.out; omega⟩, by repeat (first | exact Drawn0.refl _ | apply Drawn0.step)⟩
                    · rw [if_neg c12] at H
                      exact absurd H (by simp)
                  · rw [if_neg c10] at H
                    have c10b0 : decide ((wrap64 (a1 + (wrap64 (7 * x13_1)))) < 64) = false := decide_eq_false c10
                    clear c10
                    have H' := Aside0.mk H
                    clear H
                    go_wp2
                    go_roundg kj5
                    case measure => have := HK1.out; have := HJ5.out; omega
                    case rel => exact ⟨(x6_1), (wrap64 (x13_1 + 1)), (by first | rfl | (simp; done) | (simp [*]; done)), (by first | rfl | (simp; done) | (simp [*]; done)), H', ⟨by have := HK1.out; have := HJ5.out; omega⟩, by repeat (first | exact Drawn0.refl _ | apply Drawn0.step)⟩
          · rw [if_neg c5] at H
            exact absurd H (by simp)
        · rw [if_neg c4] at H
          exact absurd H (by simp)
      · rw [if_neg c3] at H
        have c3b0 : decide (x13_1 < (l0.length : Int)) = false := decide_eq_false c3
        clear c3
        simp only [Option.some.injEq, Prod.mk.injEq] at H
        obtain ⟨rfl, rfl⟩ := H
        go_wp2
        go_ret2
        exact ⟨by first | rfl | (simp; done) | (simp [*]; done), by repeat (first | exact Drawn0.refl _ | apply Drawn0.step)⟩

/-! ### num_Size: function 29 -/
def num_Size.f (l0 : List Int) (a1 : Int) : Option (Int × Int × Int) := if inBytes l0 = true ∧ l0.length ≤ 140737488355328 then some (sizeF l0 a1) else none
theorem num_Size.calls (A0 : Option Addr) (c0 : Nat) (l0 : List Int) (a1 : Int) (r1 : Int) (r2 : Int) (r3 : Int) (w : World) (hr0 : Kd.C (Kd.int .u8) w A0 l0.length l0) (hc0 : l0.length ≤ c0) (h : num_Size.f l0 a1 = some (r1, r2, r3)) :
    Calls Try.prog 29 #[.slice A0 l0.length c0, .int .i64 a1] w fun e w' => e = .returned (.tuple #[.int .u64 r1, .int .i64 r2, .int .i64 r3]) ∧ Drawn0 w w' := by
  unfold num_Size.f at h
  split at h
  · rename_i hb
    have h := Option.some.inj h
    exact (size_calls A0 c0 l0 a1 w (readsC hr0) hc0 hb.2 (inBytes_iff.1 hb.1)).mono fun e w' ⟨he, hw⟩ => ⟨by rw [h] at he; exact he, hw ▸ Drawn0.refl _⟩
  · cases h


-- NOT PRINTED: function 63 (delta_span)

-- NOT PRINTED: function 52 (delta_run)

/-! ### delta_Apply: function 37 -/
def delta_Apply.f (l0 : List Int) (l1 : List Int) (a2 : Int) : Option (List Int × Int) := if inBytes l1 = true ∧ l0.length ≤ 1099511627776 ∧ l1.length ≤ 1099511627776 then some ((applyF l0 l1 a2).2, (applyF l0 l1 a2).1) else none
theorem delta_Apply.calls (A0 : Option Addr) (c0 : Nat) (l0 : List Int) (A1 : Option Addr) (c1 : Nat) (l1 : List Int) (a2 : Int) (r1 : List Int) (r2 : Int) (w : World) (hr0 : Kd.C (Kd.int .u8) w A0 l0.length l0) (hc0 : l0.length ≤ c0) (hr1 : Kd.C (Kd.int .u8) w A1 l1.length l1) (hc1 : l1.length ≤ c1) (h : delta_Apply.f l0 l1 a2 = some (r1, r2)) :
    Calls Try.prog 37 #[.slice A0 l0.length c0, .slice A1 l1.length c1, .int .i64 a2] w fun e w' => ∃ v0_ : Value, e = .returned (.tuple #[v0_, .int .i64 r2]) ∧ Kd.R (Kd.int .u8) 5 w' w.heap.size (fun _ => True) v0_ r1 ∧ Below w.heap.size w w' := by
  unfold delta_Apply.f at h
  split at h
  · rename_i hb
    simp only [Option.some.injEq, Prod.mk.injEq] at h
    obtain ⟨rfl, rfl⟩ := h
    exact (dapply_calls A0 A1 c0 c1 l0 l1 a2 w (readsC hr0) hc0 (readsC hr1) hc1 hb.2.1 hb.2.2 (inBytes_iff.1 hb.1)).mono fun e w' ⟨v, he, hv, hbl⟩ => ⟨v, he, Bs.toR hv, hbl⟩
  · cases h


-- NOT PRINTED: function 59 (slices_Clip_byte_byte)

-- NOT PRINTED: function 67 (slices_Grow_byte_byte)

-- NOT PRINTED: function 60 (slices_Concat_byte_byte)

-- NOT PRINTED: function 44 (num_more)

/-! ### num_PutSize: function 22 -/
def num_PutSize.f (l0 : List Int) (a1 : Int) : Option (List Int) := if l0.length ≤ 140737488355000 ∧ 0 ≤ a1 ∧ a1 < 18446744073709551616 then some (l0 ++ sizeL 10 a1) else none
theorem num_PutSize.calls (A0 : Option Addr) (c0 : Nat) (l0 : List Int) (a1 : Int) (r : List Int) (w : World) (hr0 : Kd.C (Kd.int .u8) w A0 l0.length l0) (hc0 : l0.length ≤ c0) (h : num_PutSize.f l0 a1 = some r) :
    Calls Try.prog 22 #[.slice A0 l0.length c0, .int .u64 a1] w fun e w' => ∃ v0_ : Value, e = .returned (v0_) ∧ Kd.R (Kd.int .u8) 5 w' w.heap.size (fun _ => True) v0_ r ∧ Below w.heap.size w w' := by
  unfold num_PutSize.f at h
  split at h
  · rename_i hb
    obtain rfl := Option.some.inj h
    exact (putSize_calls A0 c0 l0 a1 w (readsC hr0) hb.1 hb.2.1 hb.2.2).mono fun e w' ⟨v, he, hv, hbl⟩ => ⟨v, he, Bs.toR hv, hbl⟩
  · cases h


/-! ### delta_same: function 56 -/
def delta_same.l0 : Nat → List Int → List Int → Int → Option (Int)
  | 0, _, _, _ => none
  | k + 1, x0, x1, x5 => if x5 < (x0.length : Int) then (if x5 < (x1.length : Int) then (if 0 ≤ x5 then (if (rd x0 x5) = (rd x1 x5) then (delta_same.l0 k x0 x1 (wrap64 (x5 + 1))) else (some x5)) else (none)) else (some x5)) else (some x5)
def delta_same.f (k : Nat) (l0 : List Int) (l1 : List Int) : Option (Int) := delta_same.l0 k l0 l1 0
theorem delta_same.mono_l : ∀ k, (∀ y0 y1 y2, LeO (delta_same.l0 k y0 y1 y2) (delta_same.l0 (k + 1) y0 y1 y2))
  | 0 => fun _ _ _ r h => by simp [delta_same.l0] at h
  | k + 1 => by
    have ih0 := delta_same.mono_l k
    · intro y0 y1 y2
      unfold delta_same.l0
      repeat' first
      | (with_reducible exact ih0 _ _ _)
      | (with_reducible exact LeO.refl _)
      | (with_reducible exact LeO.none _)
      | (with_reducible refine LeO.ite ?_ ?_)
      | (with_reducible refine LeO.bind ?_ (fun _ => ?_))
      | exact ih0 _ _ _
      | exact LeO.none _
      | refine LeO.ite ?_ ?_
      | refine LeO.bind ?_ (fun _ => ?_)
theorem delta_same.mono : ∀ a0 a1 k, LeO (delta_same.f k a0 a1) (delta_same.f (k + 1) a0 a1) := by
  intro a0 a1 k
  have ih0 := delta_same.mono_l k
  unfold delta_same.f
  repeat' first
      | (with_reducible exact ih0 _ _ _)
      | (with_reducible exact LeO.refl _)
      | (with_reducible exact LeO.none _)
      | (with_reducible refine LeO.ite ?_ ?_)
      | (with_reducible refine LeO.bind ?_ (fun _ => ?_))
      | exact ih0 _ _ _
      | exact LeO.none _
      | refine LeO.ite ?_ ?_
      | refine LeO.bind ?_ (fun _ => ?_)
set_option maxHeartbeats 8000000 in
set_option maxRecDepth 100000 in
theorem delta_same.calls (k : Nat) (A0 : Option Addr) (c0 : Nat) (l0 : List Int) (A1 : Option Addr) (c1 : Nat) (l1 : List Int) (r : Int) (w : World) (hr0 : Kd.C (Kd.int .u8) w A0 l0.length l0) (hc0 : l0.length ≤ c0) (hr1 : Kd.C (Kd.int .u8) w A1 l1.length l1) (hc1 : l1.length ≤ c1) (h : delta_same.f k l0 l1 = some r) :
    Calls Try.prog 56 #[.slice A0 l0.length c0, .slice A1 l1.length c1] w fun e w' => e = .returned (.int .i64 r) ∧ Drawn0 w w' := by
  have HR0 := Aside0.mk hr0
  have HC0 := Aside0.mk hc0
  clear hr0 hc0
  have HR1 := Aside0.mk hr1
  have HC1 := Aside0.mk hc1
  clear hr1 hc1
  have H : (delta_same.l0 k l0 l1 0) = some r := h
  clear h
  have H' := Aside0.mk H
  clear H
  go_enter Try.func56, Try.ntmps56
  go_wp2
  repeat (go_quiet (fail); try go_wp2)
  go_loopg [5] k (fun kq v5 w' => ∃ (x5_1 : Int), v5 = .int .i64 x5_1 ∧ Aside0 (delta_same.l0 kq l0 l1 x5_1 = some r) ∧ Aside0 (kq ≤ k) ∧ Drawn0 w w')
  case atStart => exact ⟨(0), (by first | rfl | (simp; done) | (simp [*]; done)), H', ⟨Nat.le_refl _⟩, by repeat (first | exact Drawn0.refl _ | apply Drawn0.step)⟩
  case round =>
    clear H'
    try clear c1
    try clear p2
    obtain ⟨x5_1, rfl, HA, HK1, ⟨m1, rfl⟩⟩ := hrel
    cases gk with
    | zero => exact absurd HA.out (by simp [delta_same.l0])
    | succ k1 =>
      have H := HA.out
      clear HA
      simp only [delta_same.l0] at H
      by_cases c3 : x5_1 < (l0.length : Int)
      · rw [if_pos c3] at H
        have c3b0 : decide (x5_1 < (l0.length : Int)) = true := decide_eq_true c3
        clear c3
        by_cases c4 : x5_1 < (l1.length : Int)
        · rw [if_pos c4] at H
          have c4b0 : decide (x5_1 < (l1.length : Int)) = true := decide_eq_true c4
          clear c4
          by_cases c5 : 0 ≤ x5_1
          · rw [if_pos c5] at H
            have c5b0 : decide (0 ≤ x5_1) = true := decide_eq_true c5
            clear c5
            by_cases c6 : (rd l0 x5_1) = (rd l1 x5_1)
            · rw [if_pos c6] at H
              have c6b0 : ((rd l0 x5_1) == (rd l1 x5_1)) = true := beq_iff_eq.mpr c6
              have c6b1 : ((rd l0 x5_1) != (rd l1 x5_1)) = false := bne_eq_false_iff_eq.mpr c6
              clear c6
              have H' := Aside0.mk H
              clear H
              have p108 : 0 ≤ (x5_1 : Int) := of_decide_eq_true (by first | (with_reducible assumption) | assumption)
              have q108 : x5_1 < (l0.length : Int) := of_decide_eq_true (by first | (with_reducible assumption) | assumption)
              obtain ⟨ad108, e108, hx108_0⟩ := Kd.at_int HR0.out x5_1 p108 q108
              cases e108
              replace p108 := eq_true p108
              replace q108 := eq_true q108
              have p109 : 0 ≤ (x5_1 : Int) := of_decide_eq_true (by first | (with_reducible assumption) | assumption)
              have q109 : x5_1 < (l1.length : Int) := of_decide_eq_true (by first | (with_reducible assumption) | assumption)
              obtain ⟨ad109, e109, hx109_0⟩ := Kd.at_int HR1.out x5_1 p109 q109
              cases e109
              replace p109 := eq_true p109
              replace q109 := eq_true q109
              go_wp2
              repeat (go_quiet (fail); try go_wp2)
              go_roundg k1
              case measure => have := HK1.out; omega
              case rel => exact ⟨(wrap64 (x5_1 + 1)), (by first | rfl | (simp; done) | (simp [*]; done)), H', ⟨by have := HK1.out; omega⟩, by repeat (first | exact Drawn0.refl _ | apply Drawn0.step)⟩
            · rw [if_neg c6] at H
              have c6b0 : ((rd l0 x5_1) == (rd l1 x5_1)) = false := beq_eq_false_iff_ne.mpr c6
              have c6b1 : ((rd l0 x5_1) != (rd l1 x5_1)) = true := bne_iff_ne.mpr c6
              obtain rfl := Option.some.inj H
              have p108 : 0 ≤ (x5_1 : Int) := of_decide_eq_true (by first | (with_reducible assumption) | assumption)
              have q108 : x5_1 < (l0.length : Int) := of_decide_eq_true (by first | (with_reducible assumption) | assumption)
              obtain ⟨ad108, e108, hx108_0⟩ := Kd.at_int HR0.out x5_1 p108 q108
              cases e108
              replace p108 := eq_true p108
              replace q108 := eq_true q108
              have p109 : 0 ≤ (x5_1 : Int) := of_decide_eq_true (by first | (with_reducible assumption) | assumption)
              have q109 : x5_1 < (l1.length : Int) := of_decide_eq_true (by first | (with_reducible assumption) | assumption)
              obtain ⟨ad109, e109, hx109_0⟩ := Kd.at_int HR1.out x5_1 p109 q109
              cases e109
              replace p109 := eq_true p109
              replace q109 := eq_true q109
              go_wp2
              repeat (go_quiet (fail); try go_wp2)
              go_ret
              exact ⟨by first | rfl | (simp; done) | (simp [*]; done), by repeat (first | exact Drawn0.refl _ | apply Drawn0.step)⟩
          · rw [if_neg c5] at H
            exact absurd H (by simp)
        · rw [if_neg c4] at H
          have c4b0 : decide (x5_1 < (l1.length : Int)) = false := decide_eq_false c4
          clear c4
          obtain rfl := Option.some.inj H
          go_wp2
          repeat (go_quiet (fail); try go_wp2)
          go_ret
          exact ⟨by first | rfl | (simp; done) | (simp [*]; done), by repeat (first | exact Drawn0.refl _ | apply Drawn0.step)⟩
      · rw [if_neg c3] at H
        have c3b0 : decide (x5_1 < (l0.length : Int)) = false := decide_eq_false c3
        clear c3
        obtain rfl := Option.some.inj H
        go_wp2
        repeat (go_quiet (fail); try go_wp2)
        go_ret
        exact ⟨by first | rfl | (simp; done) | (simp [*]; done), by repeat (first | exact Drawn0.refl _ | apply Drawn0.step)⟩

-- NOT PRINTED: function 54 (slices_Clone_byte_byte)

/-! ### delta_PutCopy: function 39 -/
def delta_PutCopy.f (l0 : List Int) (a1 : Int) (a2 : Int) : Option (List Int × Int) := if l0.length ≤ 140737488351240 then some (putCopyF l0 a1 a2) else none
theorem delta_PutCopy.calls (A0 : Option Addr) (c0 : Nat) (l0 : List Int) (a1 : Int) (a2 : Int) (r1 : List Int) (r2 : Int) (w : World) (hr0 : Kd.C (Kd.int .u8) w A0 l0.length l0) (hc0 : l0.length ≤ c0) (h : delta_PutCopy.f l0 a1 a2 = some (r1, r2)) :
    Calls Try.prog 39 #[.slice A0 l0.length c0, .int .i64 a1, .int .i64 a2] w fun e w' => ∃ v0_ : Value, e = .returned (.tuple #[v0_, .int .i64 r2]) ∧ Kd.R (Kd.int .u8) 5 w' w.heap.size (fun _ => True) v0_ r1 ∧ Below w.heap.size w w' := by
  unfold delta_PutCopy.f at h
  split at h
  · rename_i hb
    have h := Option.some.inj h
    have e1 : (putCopyF l0 a1 a2).1 = r1 := congrArg Prod.fst h
    have e2 : (putCopyF l0 a1 a2).2 = r2 := congrArg Prod.snd h
    subst e1 e2
    exact (putCopy_calls A0 c0 l0 a1 a2 w (readsC hr0) hb).mono fun e w' ⟨v, he, hv, hbl⟩ => ⟨v, he, Bs.toR hv, hbl⟩
  · cases h


-- NOT PRINTED: function 66 (slices_Chunk_byte_byte)

-- NOT PRINTED: function 58 (delta_maker_flush)

-- NOT PRINTED: function 57 (delta_maker_copy)

-- NOT PRINTED: function 41 (delta_Make)

/-! ### codicillaw08_awake: function 36 -/
def codicillaw08_awake.f : Option (Bool) := some true
theorem codicillaw08_awake.calls (r : Bool) (w : World) (h : codicillaw08_awake.f = some r) :
    Calls Try.prog 36 #[] w fun e w' => e = .returned (.bool r) ∧ Below w.heap.size w w' := by
  obtain rfl := Option.some.inj h
  exact dawake_calls w


/-! ### codicillaw08_DeltaFixed: function 13 -/
def codicillaw08_DeltaFixed.Pure : Prop := codicillaw08_awake.f = some true
set_option maxRecDepth 8000 in
set_option maxHeartbeats 8000000 in
theorem deltaFixed_calls (w : World) : Calls Try.prog 13 #[] w fun e w' => e = .returned (.bool true) ∧ Below w.heap.size w w' := by
  have kc := fun (w : World) (C : Array Value) (n c : Nat) => Lib.run_convert_bytes_const (P := Try.prog) w 22 5 C n c Try.underlying22 Try.underlying5
  obtain ⟨N, hN, hN2⟩ : ∃ N : Nat, (N : Int) = 1048577 ∧ 1048576 < N := ⟨1048577, rfl, by omega⟩
  obtain ⟨M, hM, hM2⟩ : ∃ M : Nat, (M : Int) = 70000 ∧ M = 70000 := ⟨70000, rfl, rfl⟩
  have HN2 := Lib.hid (show N ≤ 281474976710656 ∧ 1048576 < N by omega)
  have mk1 : ∀ W : World, (Instr.makeSlice 22 (.int .i64 1048577) (.int .i64 1048577)).run Try.prog W = .ok (.slice (some ⟨W.heap.size, 0, none⟩) N N) (W.alloc (.cells (madeCells #[.int .u8 0] N) 5)) := by
    have h := print_make (P := Try.prog) 22 5 .u8 1 Try.underlying22 infoU8 (by decide) N (by omega)
    rw [hN] at h
    exact h
  have mk2 : ∀ W : World, (Instr.makeSlice 22 (.int .i64 70000) (.int .i64 70000)).run Try.prog W = .ok (.slice (some ⟨W.heap.size, 0, none⟩) M M) (W.alloc (.cells (madeCells #[.int .u8 0] M) 5)) := by
    have h := print_make (P := Try.prog) 22 5 .u8 1 Try.underlying22 infoU8 (by decide) M (by omega)
    rw [hM] at h
    exact h
  have HM2 := Lib.hid hM2
  clear hN hN2 hM hM2
  go_enter Try.func13, Try.ntmps13
  go_wp2_with fail
  refine (dawake_calls w).mono ?_
  rintro e w0 ⟨rfl, hb0⟩
  have HB0 := Lib.hid hb0
  clear hb0
  go_wp2_with fail
  refine (fx_app w0 [97, 98, 99, 100, 101, 102] [6, 5, 144, 3, 2, 120, 121] 4 (10, []) (by decide +kernel) (by decide) (by decide) (by decide)).mono ?_
  rintro e w1 ⟨A1, c1, rfl, hb⟩
  have HB1 := Lib.hid (HB0.out.trans (hb.mono HB0.out.size))
  clear hb
  go_wp2_with fail
  refine (fx_app w1 [97, 98, 99] [3, 0] 0 (0, []) (by decide +kernel) (by decide) (by decide) (by decide)).mono ?_
  rintro e w2 ⟨A2, c2, rfl, hb⟩
  have HB2 := Lib.hid (HB1.out.trans (hb.mono HB1.out.size))
  clear hb
  go_wp2_with fail
  refine (fx_app w2 [97, 98] [3, 0] 0 (4, []) (by decide +kernel) (by decide) (by decide) (by decide)).mono ?_
  rintro e w3 ⟨A3, c3, rfl, hb⟩
  have HB3 := Lib.hid (HB2.out.trans (hb.mono HB2.out.size))
  clear hb
  go_wp2_with fail
  refine (fx_app w3 [97, 98, 99] [3, 1, 0] 9 (4, []) (by decide +kernel) (by decide) (by decide) (by decide)).mono ?_
  rintro e w4 ⟨A4, c4, rfl, hb⟩
  have HB4 := Lib.hid (HB3.out.trans (hb.mono HB3.out.size))
  clear hb
  go_wp2_with fail
  refine (fx_app w4 [97, 98, 99] [3, 2, 145, 2] 9 (5, []) (by decide +kernel) (by decide) (by decide) (by decide)).mono ?_
  rintro e w5 ⟨A5, c5, rfl, hb⟩
  have HB5 := Lib.hid (HB4.out.trans (hb.mono HB4.out.size))
  clear hb
  go_wp2_with fail
  refine (fx_app w5 [97, 98, 99] [3, 2, 145, 2, 2] 9 (4, []) (by decide +kernel) (by decide) (by decide) (by decide)).mono ?_
  rintro e w6 ⟨A6, c6, rfl, hb⟩
  have HB6 := Lib.hid (HB5.out.trans (hb.mono HB5.out.size))
  clear hb
  go_wp2_with fail
  refine (fx_app w6 [97, 98, 99] [3, 5, 1, 120] 9 (4, []) (by decide +kernel) (by decide) (by decide) (by decide)).mono ?_
  rintro e w7 ⟨A7, c7, rfl, hb⟩
  have HB7 := Lib.hid (HB6.out.trans (hb.mono HB6.out.size))
  clear hb
  go_wp2_with fail
  have h8 := dapply_calls none none 0 0 [] [] (-1) w7 ⟨rfl, by simp, fun h => absurd h (by simp)⟩ (by decide) ⟨rfl, by simp, fun h => absurd h (by simp)⟩ (by decide) (by decide) (by decide) (by simp)
  rw [show applyF [] [] (-1) = (1, []) from by decide +kernel] at h8
  refine h8.mono ?_
  rintro e w8 ⟨v8, rfl, ho, hb⟩
  have HB8 := Lib.hid (HB7.out.trans (hb.mono HB7.out.size))
  clear hb ho h8
  go_wp2_with fail
  have h9 := putCopy_calls none 0 [] 0 65536 w8 ⟨rfl, by simp, fun h => absurd h (by simp)⟩ (by simp)
  rw [show putCopyF [] 0 65536 = ([128], 0) from by decide +kernel] at h9
  refine h9.mono ?_
  rintro e w9 ⟨v9, rfl, ho, hb⟩
  obtain ⟨A9, n9, c9, rfl, HO, HN⟩ := Bs.open_ ho
  obtain rfl : n9 = 1 := HN.out
  have HB9 := Lib.hid (HB8.out.trans (hb.mono HB8.out.size))
  have HX9 := Lib.hid ho
  have HXC := Lib.hid (own_cap HO.out).1
  clear hb ho h9 HO HN
  go_wp2_with fail
  have h10 := putCopy_calls none 0 [] 258 3 w9 ⟨rfl, by simp, fun h => absurd h (by simp)⟩ (by simp)
  rw [show putCopyF [] 258 3 = ([147, 2, 1, 3], 0) from by decide +kernel] at h10
  refine h10.mono ?_
  rintro e w10 ⟨v10, rfl, ho, hb⟩
  obtain ⟨A10, n10, c10, rfl, HO, HN⟩ := Bs.open_ ho
  obtain rfl : n10 = 4 := HN.out
  have HB10 := Lib.hid (HB9.out.trans (hb.mono HB9.out.size))
  have HX10 := Lib.hid (pw_own_below HX9.out hb)
  have HY10 := Lib.hid ho
  have HYC := Lib.hid (own_cap HO.out).1
  clear hb ho h10 HO HN
  go_wp2_with fail
  have h11 := putCopy_calls none 0 [] 4294967296 3 w10 ⟨rfl, by simp, fun h => absurd h (by simp)⟩ (by simp)
  rw [show putCopyF [] 4294967296 3 = ([], 1) from by decide +kernel] at h11
  refine h11.mono ?_
  rintro e w11 ⟨v11, rfl, ho, hb⟩
  obtain ⟨A11, n11, c11, rfl, HO, HN⟩ := Bs.open_ ho
  obtain rfl : n11 = 0 := HN.out
  have HB11 := Lib.hid (HB10.out.trans (hb.mono HB10.out.size))
  have HX11 := Lib.hid (pw_own_below HX10.out hb)
  have HY11 := Lib.hid (pw_own_below HY10.out hb)
  clear hb ho h11 HO HN
  go_wp2_with fail
  have HX12 := Lib.hid (pw_own_below HX11.out (below_alloc (Below.refl _ _) (.cells (madeCells #[.int .u8 0] N) 5)))
  have HY12 := Lib.hid (pw_own_below HY11.out (below_alloc (Below.refl _ _) (.cells (madeCells #[.int .u8 0] N) 5)))
  have HB12 := Lib.hid (below_alloc HB11.out (.cells (madeCells #[.int .u8 0] N) 5))
  generalize w11.alloc (.cells (madeCells #[.int .u8 0] N) 5) = w12 at *
  refine (make_long _ N _ w12 HN2.out.2).mono ?_
  rintro e w12' ⟨rfl, rfl⟩
  go_wp2_with (at_builtin; go_must (refine brow_append_row' (w0 := w12.alloc (.cells (madeCells #[.int .u8 0] M) 5)) (w12.heap.size + 1) rfl (.tmp 103) (.tmp 104) 22 5 rfl Try.underlying22 infoU8 (.slice (some ⟨w12.heap.size + 1, 0, none⟩) 6 6) [240, 162, 4, 128, 128, 4] [128] A9 1 c9 rfl rfl (df_lit w12 (.cells (madeCells #[.int .u8 0] M) 5)) ((own_reads' HX12.out).below (below_alloc (below_alloc (Below.refl _ _) _) _)) (df_b1 _ _ _) (df_b2 _ _ _) (by decide) ?_); intro v14 w14 ho14 hb14; have HO14 := Lib.hid ho14; have HW14 := Lib.hid hb14; clear ho14 hb14)
  obtain ⟨A14, n14, c14, rfl, HO14', HN14⟩ := Bs.open_ HO14.out
  obtain rfl : n14 = 7 := HN14.out
  have hc14 := (own_cap HO14'.out).1
  have HW12 := Lib.hid ((below_alloc (Below.refl _ _) (.cells (madeCells #[.int .u8 0] M) 5)).trans (HW14.out.mono (Nat.le_succ _)))
  have HX14 := Lib.hid (pw_own_below HX12.out HW12.out)
  have HY14 := Lib.hid (pw_own_below HY12.out HW12.out)
  have HB14 := Lib.hid (HB12.out.trans (HW12.out.mono HB12.out.size))
  have hlong : ReadsInt w14 .u8 (some ⟨w12.heap.size, 0, none⟩) (List.replicate M (0 : Int)).length (List.replicate M 0) := by
    rw [List.length_replicate]
    exact (own_reads' (own_made w12 0 5 .u8 M (Nat.zero_le _) (by have := HM2.out; omega))).below (by rw [World.size_alloc]; exact HW14.out)
  have hlM : (List.replicate M (0 : Int)).length = M := List.length_replicate
  have h15 := dapply_calls (some ⟨w12.heap.size, 0, none⟩) A14 M c14 (List.replicate M 0) [240, 162, 4, 128, 128, 4, 128] 65536 w14 hlong (by rw [hlM]; exact Nat.le_refl _) (own_reads' HO14'.out) hc14 (by rw [hlM, HM2.out]; omega) (by decide) (by decide)
  have hap : applyF (List.replicate M 0) [240, 162, 4, 128, 128, 4, 128] 65536 = (0, (List.replicate M (0 : Int)).take 65536) := by rw [HM2.out]; exact fx_big
  have hl15 : ((List.replicate M (0 : Int)).take 65536).length = 65536 := by rw [List.length_take, hlM, HM2.out]; rfl
  rw [hap, hlM] at h15
  have H15 := Lib.hid h15
  have HL15 := Lib.hid hl15
  clear hlong hlM h15 hap hl15 HN14
  refine H15.out.mono ?_
  rintro e w15 ⟨v15, rfl, ho15, hb15⟩
  obtain ⟨A15, n15, c15, rfl, HO15, HN15⟩ := Bs.open_ ho15
  obtain rfl : n15 = 65536 := HN15.out.trans HL15.out
  have HX15 := Lib.hid (pw_own_below HX14.out hb15)
  have HY15 := Lib.hid (pw_own_below HY14.out hb15)
  have HB15 := Lib.hid (HB14.out.trans (hb15.mono HB14.out.size))
  clear ho15 hb15 HN15 HL15 H15 HO15
  go_wp2_with fail
  refine (codicilref01_Same.calls A9 c9 [128] (some ⟨w15.heap.size, 0, none⟩) 1 [128] true _ (toC ((own_reads' HX15.out).allocS _)) HXC.out (toC (own_reads' (own_lit w15 0 5 .u8 [128] (Nat.zero_le _) (by simp)))) (by decide) (by simp [codicilref01_Same.f])).mono ?_
  rintro e w16 ⟨rfl, hd⟩
  have HB16 := Lib.hid (show Below w.heap.size w w16 from below_then (below_alloc HB15.out _) (below_alloc HB15.out _).size hd.below)
  have HY16 := Lib.hid (pw_own_below HY15.out ((below_alloc (Below.refl _ _) _).trans (hd.below.mono (by simp))))
  clear hd
  go_wp2_with fail
  refine (codicilref01_Same.calls A10 c10 [147, 2, 1, 3] (some ⟨w16.heap.size, 0, none⟩) 4 [147, 2, 1, 3] true _ (toC ((own_reads' HY16.out).allocS _)) HYC.out (toC (own_reads' (own_lit w16 0 5 .u8 [147, 2, 1, 3] (Nat.zero_le _) (by simp)))) (by decide) (by simp [codicilref01_Same.f])).mono ?_
  rintro e w17 ⟨rfl, hd⟩
  have HB17 := Lib.hid (show Below w.heap.size w w17 from below_then (below_alloc HB16.out _) (below_alloc HB16.out _).size hd.below)
  clear hd
  go_wp2_with fail
  go_ret
  exact ⟨rfl, HB17.out⟩
theorem codicillaw08_DeltaFixed.walk (P : codicillaw08_DeltaFixed.Pure) (w : World) :
    Calls Try.prog 13 #[] w fun e w' => e = .returned (.bool true) ∧ Below w.heap.size w w' := deltaFixed_calls w


end Go.Proofs.Ytiocipmnmjpkfaa.PDF
