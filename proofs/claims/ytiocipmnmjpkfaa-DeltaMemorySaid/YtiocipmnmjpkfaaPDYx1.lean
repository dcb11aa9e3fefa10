-- Written by fprint.py, a program of this session, over the translation. Not trusted: Lean checks it.
import Derived.Test.YtiocipmnmjpkfaaPDYx0
namespace Go.Proofs.Ytiocipmnmjpkfaa.PDY
open Go.RowKit Go.Proofs.YtiocipmnmjpkfaaW.PrintWords Go.Proofs.YtiocipmnmjpkfaaW.PrintLast Go.Proofs.YtiocipmnmjpkfaaW.PrintMore
attribute [local go_sem] max2_int min2_int max_two min_two max_three min_three max_four min_four   -- for this text's walks alone
set_option linter.unusedVariables false
set_option linter.unusedSimpArgs false

/-! ### codicilref01_Same: function 21 -/
def codicilref01_Same.f (l0 : List Int) (l1 : List Int) : Option (Bool) := some ((strOfNums l0).toList == (strOfNums l1).toList)
set_option maxHeartbeats 8000000 in
set_option maxRecDepth 100000 in
theorem codicilref01_Same.calls (A0 : Option Addr) (c0 : Nat) (l0 : List Int) (A1 : Option Addr) (c1 : Nat) (l1 : List Int) (r : Bool) (w : World) (hr0 : Kd.C (Kd.int .u8) w A0 l0.length l0) (hc0 : l0.length ≤ c0) (hr1 : Kd.C (Kd.int .u8) w A1 l1.length l1) (hc1 : l1.length ≤ c1) (h : codicilref01_Same.f l0 l1 = some r) :
    Calls Try.prog 21 #[.slice A0 l0.length c0, .slice A1 l1.length c1] w fun e w' => e = .returned (.bool r) ∧ Drawn0 w w' := by
  have HR0 := Aside0.mk hr0
  have HC0 := Aside0.mk hc0
  clear hr0 hc0
  have HR1 := Aside0.mk hr1
  have HC1 := Aside0.mk hc1
  clear hr1 hc1
  have H : (some ((strOfNums l0).toList == (strOfNums l1).toList)) = some r := h
  clear h
  obtain rfl := Option.some.inj H
  have hcv3 := Kd.C_string (P := Try.prog) (A := A0) (c := c0) Try.underlying22 Try.underlying5 Try.underlying9 HR0.out
  have hcv4 := Kd.C_string (P := Try.prog) (A := A1) (c := c1) Try.underlying22 Try.underlying5 Try.underlying9 HR1.out
  go_enter Try.func21, Try.ntmps21
  go_wp2
  go_ret
  exact ⟨by first | rfl | (simp; done) | (simp [*]; done), by repeat (first | exact Drawn0.refl _ | apply Drawn0.step)⟩

/-! ### codicilref01_Spare: function 26 -/
set_option maxHeartbeats 1000000 in
theorem spare_calls (A : Option Addr) (c : Nat) (l : List Int) (w : World) (hl : ReadsInt w .u8 A l.length l) (hn : l.length + 8 ≤ 140737488355328) :
    Calls Try.prog 26 #[.slice A l.length c] w fun e w' => ∃ g cap, e = .returned (.tuple #[.slice (some ⟨g, 0, none⟩) l.length cap, .slice (some ⟨g, 0, none⟩) (l.length + 4) cap]) ∧ Bs 5 w' w.heap.size (.slice (some ⟨g, 0, none⟩) (l.length + 4) cap) (l ++ [41, 42, 43, 44]) ∧ Below w.heap.size w w' := by
  have HL := Lib.hid hl
  clear hl
  have hmk := make_room (P := Try.prog) 22 5 (.int .u8 0) 1 Try.underlying22 infoU8 rfl ((l.length : Int) + 4) (l.length + 4) (by omega) (by omega) (by omega)
  go_enter Try.func26, Try.ntmps26
  go_wp2_with (first | (at_builtin; refine brow_append_row' (w0 := w) w.heap.size rfl (.tmp 9) (.tmp 10) 22 5 rfl Try.underlying22 infoU8 (.slice (some ⟨w.heap.size, 0, none⟩) 0 (l.length + 4)) [] l A l.length c rfl rfl (own_room w w.heap.size 5 (.int .u8 0) (l.length + 4) (Nat.le_refl _) (by simp only [maxLen]; omega)) (HL.out.allocS _) (below_alloc (Below.refl _ _) _) (by simp) (by simp; omega) ?_; intro v1 w1 hown1 hb1; have HO1 := Lib.hid hown1; have HB1 := Lib.hid hb1; clear hown1 hb1) | (at_builtin; refine brow_append_row' (w0 := w) w.heap.size rfl (.tmp 12) (.tmp 13) 22 5 rfl Try.underlying22 infoU8 v1 ([] ++ l) [41, 42, 43, 44] (some ⟨w1.heap.size, 0, none⟩) 4 4 rfl rfl (pw_own_below HO1.out (below_alloc (Below.refl _ _) _)) (own_reads' (own_lit w1 _ 5 .u8 [41, 42, 43, 44] (Nat.le_refl _) (by simp))) (HB1.out.alloc HB1.out.size _) (by have := HB1.out.size; simp; omega) (by simp; omega) ?_; intro v2 w2 hown2 hb2; have HO2 := Lib.hid hown2; have HB2 := Lib.hid hb2; clear hown2 hb2; obtain ⟨g, cap, hv2, _, _⟩ := World.ownsRow.form HO2.out (by simp); rw [show ([] ++ l ++ [41, 42, 43, 44] : List Int).length = l.length + 4 from by simp] at hv2; subst hv2; have hcap : l.length + 4 ≤ cap := (own_cap (n := l.length + 4) (by simpa [Bs] using HO2.out)).1; have hcap0 : l.length ≤ cap := (by omega)))
  go_ret2
  refine ⟨g, cap, rfl, ?_, HB2.out⟩
  have := HO2.out
  simpa using this


/-! ### codicilref01_Kept: function 27 -/
def codicilref01_Kept.f (l0 : List Int) (l1 : List Int) : Option (Bool) := if l1 = l0 ++ [41, 42, 43, 44] ∧ l1.length ≤ 9223372036854775807 then some true else none
set_option maxHeartbeats 1000000 in
theorem codicilref01_Kept.calls (A0 : Option Addr) (c0 : Nat) (l0 : List Int) (A1 : Option Addr) (c1 : Nat) (l1 : List Int) (r : Bool) (w : World) (hr0 : Kd.C (Kd.int .u8) w A0 l0.length l0) (hc0 : l0.length ≤ c0) (hr1 : Kd.C (Kd.int .u8) w A1 l1.length l1) (hc1 : l1.length ≤ c1) (h : codicilref01_Kept.f l0 l1 = some r) :
    Calls Try.prog 27 #[.slice A0 l0.length c0, .slice A1 l1.length c1] w fun e w' => e = .returned (.bool r) ∧ Below w.heap.size w w' := by
  unfold codicilref01_Kept.f at h
  split at h
  · rename_i hb
    obtain rfl := Option.some.inj h
    obtain ⟨he, hlm⟩ := hb
    have hlen : l1.length = l0.length + 4 := by rw [he]; simp
    have HR0 := Lib.hid hr0
    have HR1 := Lib.hid (Kd.reads_of_C (enc := Value.int .u8) (d := 0) hr1)
    have HE := Lib.hid he
    clear hr0 hr1 he h
    rw [hlen] at hc1 hlm
    rw [hlen]
    have h1 : (((l0.length : Int) + 4) == ((l0.length : Int) + 4)) = true := by simp
    have e1 : l1.take l0.length = l0 := by rw [HE.out]; simp
    have e2 : l1.drop l0.length = [41, 42, 43, 44] := by rw [HE.out]; simp
    obtain ⟨i011, hi011, _, hsz11, _⟩ := info_parts infoU8
    have hr1' := HR1.out
    rw [hlen] at hr1'
    obtain ⟨A2, hcut, hA2⟩ := print_cut_of (P := Try.prog) (Value.int .u8) 0 22 5 .i64 Try.underlying22 hi011 hsz11 A1 (l0.length + 4) c1 l0.length (by omega)
    have hr2 := hA2 w l1 hc1 hr1'
    rw [show l0.length + 4 - l0.length = 4 from by omega, e2] at hr2
    rw [show l0.length + 4 - l0.length = 4 from by omega] at hcut
    have hrt : ReadsOf (Value.int .u8) 0 w A1 l0.length l0 := by
      have h := hr1'.take_ l0.length (by omega)
      rwa [e1] at h
    have HT := Lib.hid hrt
    have H2 := Lib.hid hr2
    clear hrt hr2 hA2 hr1' e1 e2 hlen hi011 hsz11
    have hs1 : codicilref01_Same.f l0 l0 = some true := by simp [codicilref01_Same.f]
    have hs2 : codicilref01_Same.f [41, 42, 43, 44] [41, 42, 43, 44] = some true := by simp [codicilref01_Same.f]
    have HS1 := Lib.hid hs1
    have HS2 := Lib.hid hs2
    clear hs1 hs2
    go_enter Try.func27, Try.ntmps27
    go_wp2_with fail
    refine (codicilref01_Same.calls _ _ l0 _ _ l0 true _ (Kd.C_of_reads HT.out) (by omega) HR0.out hc0 HS1.out).mono ?_
    rintro e w1 ⟨rfl, hd⟩
    obtain ⟨n1, rfl⟩ := hd.out
    go_wp2_with fail
    refine (codicilref01_Same.calls A2 _ [41, 42, 43, 44] _ _ [41, 42, 43, 44] true _ (Kd.C_of_reads (H2.out.below ?_)) (by simp; omega) (toC ?_) (by simp) HS2.out).mono ?_
    · exact below_alloc (pw_below_drewN (Below.refl _ _) _) _
    · exact own_reads' (own_lit (w.drewN n1) _ 5 .u8 [41, 42, 43, 44] (Nat.le_refl _) (by simp))
    rintro e w1 ⟨rfl, hd⟩
    obtain ⟨n2, rfl⟩ := hd.out
    go_wp2_with fail
    go_ret
    exact ⟨rfl, pw_below_drewN (below_alloc (pw_below_drewN (Below.refl _ _) _) _) _⟩
  · cases h


-- NOT PRINTED: function 61 (slices_IndexFunc_byte_byte)

-- NOT PRINTED: function 47 (num_groups)

/-! ### bits_Len64: function 43 -/
def bits_Len64.f (a0 : Int) : Option (Int) := if 0 ≤ a0 ∧ a0 < 18446744073709551616 then some (lenI a0) else none
theorem bits_Len64.calls (a0 : Int) (r : Int) (w : World) (h : bits_Len64.f a0 = some r) :
    Calls Try.prog 43 #[.int .u64 a0] w fun e w' => e = .returned (.int .i64 r) ∧ Drawn0 w w' := by
  unfold bits_Len64.f at h
  split at h
  · rename_i hb
    obtain rfl := Option.some.inj h
    exact (len64_calls a0 w hb.1 hb.2).mono fun e w' ⟨he, hw⟩ => ⟨he, by subst hw; exact Drawn0.refl _⟩
  · cases h


/-! ### num_sum: function 48 -/
mutual
def num_sum.l0 : Nat → Int → Int → List Int → Int → Int → Option (Int × Bool)
  | 0, _, _, _, _, _ => none
  | k + 1, x1, x6, x11, x12, x13 => if x13 < x12 then (if 0 ≤ x13 then (if x13 < (x11.length : Int) then (if (IntKind.u64.wrap (Go.bits .and .u8 (rd x11 x13) 127)) = 0 then (num_sum.j1 k x1 x6 (IntKind.u64.wrap (Go.bits .and .u8 (rd x11 x13) 127)) (wrap64 (x1 + (wrap64 (7 * x13)))) x11 x12 x13 false) else ((bits_Len64.f (IntKind.u64.wrap (Go.bits .and .u8 (rd x11 x13) 127))).bind fun t103 => (num_sum.j1 k x1 x6 (IntKind.u64.wrap (Go.bits .and .u8 (rd x11 x13) 127)) (wrap64 (x1 + (wrap64 (7 * x13)))) x11 x12 x13 (decide ((wrap64 ((wrap64 (x1 + (wrap64 (7 * x13)))) + t103)) > 64))))) else (none)) else (none)) else (some (x6, true))
def num_sum.j1 : Nat → Int → Int → Int → Int → List Int → Int → Int → Bool → Option (Int × Bool)
  | 0, _, _, _, _, _, _, _, _ => none
  | k + 1, x1, x6, x9, x10, x11, x12, x13, x33 => if x33 = true then (some (0, false)) else (if x10 < 64 then (if 0 ≤ x10 then (num_sum.l0 k x1 (Go.bits .or .u64 x6 (shl .u64 x9 x10)) x11 x12 (wrap64 (x13 + 1))) else (none)) else (num_sum.l0 k x1 x6 x11 x12 (wrap64 (x13 + 1))))
end
def num_sum.f (k : Nat) (l0 : List Int) (a1 : Int) : Option (Int × Bool) := num_sum.l0 k a1 0 l0 (l0.length : Int) 0
theorem num_sum.mono_l : ∀ k, (∀ y0 y1 y2 y3 y4, LeO (num_sum.l0 k y0 y1 y2 y3 y4) (num_sum.l0 (k + 1) y0 y1 y2 y3 y4)) ∧ (∀ y0 y1 y2 y3 y4 y5 y6 y7, LeO (num_sum.j1 k y0 y1 y2 y3 y4 y5 y6 y7) (num_sum.j1 (k + 1) y0 y1 y2 y3 y4 y5 y6 y7))
  | 0 => ⟨fun _ _ _ _ _ r h => by simp [num_sum.l0] at h, fun _ _ _ _ _ _ _ _ r h => by simp [num_sum.j1] at h⟩
  | k + 1 => by
    obtain ⟨ih0, ih1⟩ := num_sum.mono_l k
    refine ⟨?_, ?_⟩
    · intro y0 y1 y2 y3 y4
      unfold num_sum.l0
      repeat' first
      | (with_reducible exact ih0 _ _ _ _ _)
      | (with_reducible exact ih1 _ _ _ _ _ _ _ _)
      | (with_reducible exact LeO.refl _)
      | (with_reducible exact LeO.none _)
      | (with_reducible refine LeO.ite ?_ ?_)
      | (with_reducible refine LeO.bind ?_ (fun _ => ?_))
      | exact ih0 _ _ _ _ _
      | exact ih1 _ _ _ _ _ _ _ _
      | exact LeO.none _
      | refine LeO.ite ?_ ?_
      | refine LeO.bind ?_ (fun _ => ?_)
    · intro y0 y1 y2 y3 y4 y5 y6 y7
      unfold num_sum.j1
      repeat' first
      | (with_reducible exact ih0 _ _ _ _ _)
      | (with_reducible exact ih1 _ _ _ _ _ _ _ _)
      | (with_reducible exact LeO.refl _)
      | (with_reducible exact LeO.none _)
      | (with_reducible refine LeO.ite ?_ ?_)
      | (with_reducible refine LeO.bind ?_ (fun _ => ?_))
      | exact ih0 _ _ _ _ _
      | exact ih1 _ _ _ _ _ _ _ _
      | exact LeO.none _
      | refine LeO.ite ?_ ?_
      | refine LeO.bind ?_ (fun _ => ?_)
theorem num_sum.mono : ∀ a0 a1 k, LeO (num_sum.f k a0 a1) (num_sum.f (k + 1) a0 a1) := by
  intro a0 a1 k
  obtain ⟨ih0, ih1⟩ := num_sum.mono_l k
  unfold num_sum.f
  repeat' first
      | (with_reducible exact ih0 _ _ _ _ _)
      | (with_reducible exact ih1 _ _ _ _ _ _ _ _)
      | (with_reducible exact LeO.refl _)
      | (with_reducible exact LeO.none _)
      | (with_reducible refine LeO.ite ?_ ?_)
      | (with_reducible refine LeO.bind ?_ (fun _ => ?_))
      | exact ih0 _ _ _ _ _
      | exact ih1 _ _ _ _ _ _ _ _
      | exact LeO.none _
      | refine LeO.ite ?_ ?_
      | refine LeO.bind ?_ (fun _ => ?_)
set_option maxHeartbeats 8000000 in
set_option maxRecDepth 100000 in
theorem num_sum.calls (k : Nat) (A0 : Option Addr) (c0 : Nat) (l0 : List Int) (a1 : Int) (r1 : Int) (r2 : Bool) (w : World) (hr0 : Kd.C (Kd.int .u8) w A0 l0.length l0) (hc0 : l0.length ≤ c0) (h : num_sum.f k l0 a1 = some (r1, r2)) :
    Calls Try.prog 48 #[.slice A0 l0.length c0, .int .i64 a1] w fun e w' => e = .returned (.tuple #[.int .u64 r1, .bool r2]) ∧ Drawn0 w w' := by
  have HR0 := Aside0.mk hr0
  have HC0 := Aside0.mk hc0
  clear hr0 hc0
  have H : (num_sum.l0 k a1 0 l0 (l0.length : Int) 0) = some (r1, r2) := h
  clear h
  have H' := Aside0.mk H
  clear H
  go_enter Try.func48, Try.ntmps48
  go_wp2
  go_loopg [6, 13] k (fun kq v6 v13 w' => ∃ (x6_1 : Int) (x13_1 : Int), v6 = .int .u64 x6_1 ∧ v13 = .int .i64 x13_1 ∧ Aside0 (num_sum.l0 kq a1 x6_1 l0 (l0.length : Int) x13_1 = some (r1, r2)) ∧ Aside0 (kq ≤ k) ∧ Drawn0 w w')
  case atStart => exact ⟨(0), (0), (by first | rfl | (simp; done) | (simp [*]; done)), (by first | rfl | (simp; done) | (simp [*]; done)), H', ⟨Nat.le_refl _⟩, by repeat (first | exact Drawn0.refl _ | apply Drawn0.step)⟩
  case round =>
    clear H'
    try clear p2
    obtain ⟨x6_1, x13_1, rfl, rfl, HA, HK1, ⟨m1, rfl⟩⟩ := hrel
    cases gk with
    | zero => exact absurd HA.out (by simp [num_sum.l0])
    | succ k1 =>
      have H := HA.out
      clear HA
      simp only [num_sum.l0] at H
      by_cases c3 : x13_1 < (l0.length : Int)
      · rw [if_pos c3] at H
        have c3b0 : decide (x13_1 < (l0.length : Int)) = true := decide_eq_true c3
        clear c3
        by_cases c4 : 0 ≤ x13_1
        · rw [if_pos c4] at H
          have c4b0 : decide (0 ≤ x13_1) = true := decide_eq_true c4
          clear c4
          by_cases c5 : x13_1 < (l0.length : Int)
          · rw [if_pos c5] at H
            have c5b0 : decide (x13_1 < (l0.length : Int)) = true := decide_eq_true c5
            clear c5
            have HC6 := Aside0.mk H
            clear H
            have p102 : 0 ≤ (x13_1 : Int) := of_decide_eq_true (by first | (with_reducible assumption) | assumption)
            have q102 : x13_1 < (l0.length : Int) := of_decide_eq_true (by first | (with_reducible assumption) | assumption)
            obtain ⟨ad102, e102, hx102_0⟩ := Kd.at_int HR0.out x13_1 p102 q102
            cases e102
            replace p102 := eq_true p102
            replace q102 := eq_true q102
            go_upto_region 7 with (fail)
            go_cut [33] (fun v33 wc => ∃ (kq : Nat) (x33_5 : Bool), v33 = .bool x33_5 ∧ Aside0 (num_sum.j1 kq a1 x6_1 (IntKind.u64.wrap (Go.bits .and .u8 (rd l0 x13_1) 127)) (wrap64 (a1 + (wrap64 (7 * x13_1)))) l0 (l0.length : Int) x13_1 x33_5 = some (r1, r2)) ∧ Aside0 (kq ≤ k1) ∧ Drawn0 w wc)
            case first =>
              have H := HC6.out
              clear HC6
              by_cases c7 : (IntKind.u64.wrap (Go.bits .and .u8 (rd l0 x13_1) 127)) = 0
              · rw [if_pos c7] at H
                have c7b0 : ((IntKind.u64.wrap (Go.bits .and .u8 (rd l0 x13_1) 127)) == 0) = true := beq_iff_eq.mpr c7
                have c7b1 : ((IntKind.u64.wrap (Go.bits .and .u8 (rd l0 x13_1) 127)) != 0) = false := bne_eq_false_iff_eq.mpr c7
                clear c7
                (first | rw [c7b0] | (simp only [i64_w, i32_w]; rw [c7b0]) | skip)
                have H' := Aside0.mk H
                clear H
                go_wp2
                go_meet
                case rel => exact ⟨_, (false), (by first | rfl | (simp; done) | (simp [*]; done)), H', ⟨by have := HK1.out; first | omega | exact Nat.le_refl _⟩, by repeat (first | exact Drawn0.refl _ | apply Drawn0.step)⟩
              · rw [if_neg c7] at H
                have c7b0 : ((IntKind.u64.wrap (Go.bits .and .u8 (rd l0 x13_1) 127)) == 0) = false := beq_eq_false_iff_ne.mpr c7
                have c7b1 : ((IntKind.u64.wrap (Go.bits .and .u8 (rd l0 x13_1) 127)) != 0) = true := bne_iff_ne.mpr c7
                (first | rw [c7b0] | (simp only [i64_w, i32_w]; rw [c7b0]) | skip)
                replace H := Option.bind_eq_some_iff.mp H
                obtain ⟨t103, A80, H⟩ := H
                replace H : (num_sum.j1 k1 a1 x6_1 (IntKind.u64.wrap (Go.bits .and .u8 (rd l0 x13_1) 127)) (wrap64 (a1 + (wrap64 (7 * x13_1)))) l0 (l0.length : Int) x13_1 (decide ((wrap64 ((wrap64 (a1 + (wrap64 (7 * x13_1)))) + t103)) > 64))) = some (r1, r2) := H
                have A8 := Aside0.mk A80
                clear A80
                have H' := Aside0.mk H
                clear H
                go_wp2_with (first | (go_at_call 43; (with_reducible refine (bits_Len64.calls (IntKind.u64.wrap (Go.bits .and .u8 (rd l0 x13_1) 127)) t103 _ A8.out).mono ?_); rintro e w' ⟨rfl, ⟨nd, rfl⟩⟩))
                go_meet
                case rel => exact ⟨_, (decide ((wrap64 ((wrap64 (a1 + (wrap64 (7 * x13_1)))) + t103)) > 64)), (by first | rfl | (simp; done) | (simp [*]; done)), H', ⟨by have := HK1.out; first | omega | exact Nat.le_refl _⟩, by repeat (first | exact Drawn0.refl _ | apply Drawn0.step)⟩
            case rest =>
              clear HC6
              try clear p1
              try clear q1
              try clear hx1
              try clear p2
              try clear c3
              try clear c3b0
              try clear c4
              try clear c4b0
              try clear c5
              try clear c5b0
              try clear p6
              try clear c7
              try clear c7b0
              try clear c7b1
              try clear hx102_0
              try clear p102
              try clear p2
              try clear q102
              obtain ⟨kq, x33_5, rfl, HA, HJ5, ⟨mc5, rfl⟩⟩ := hcut
              cases kq with
              | zero => exact absurd HA.out (by simp [num_sum.j1])
              | succ kj5 =>
                have H := HA.out
                clear HA
                simp only [num_sum.j1] at H
                by_cases c9 : x33_5 = true
                · subst c9
                  have H1 : (some (0, false)) = some (r1, r2) := by rw [if_pos rfl] at H; exact H
                  clear H
                  have H := H1
                  clear H1
                  simp only [Option.some.injEq, Prod.mk.injEq] at H
                  obtain ⟨rfl, rfl⟩ := H
                  go_wp2
                  go_ret2
                  exact ⟨by first | rfl | (simp; done) | (simp [*]; done), by repeat (first | exact Drawn0.refl _ | apply Drawn0.step)⟩
                · replace c9 := Bool.eq_false_iff.mpr c9
                  subst c9
                  have H1 : (if (wrap64 (a1 + (wrap64 (7 * x13_1)))) < 64 then (if 0 ≤ (wrap64 (a1 + (wrap64 (7 * x13_1)))) then (num_sum.l0 kj5 a1 (Go.bits .or .u64 x6_1 (shl .u64 (IntKind.u64.wrap (Go.bits .and .u8 (rd l0 x13_1) 127)) (wrap64 (a1 + (wrap64 (7 * x13_1)))))) l0 (l0.length : Int) (wrap64 (x13_1 + 1))) else (none)) else (num_sum.l0 kj5 a1 x6_1 l0 (l0.length : Int) (wrap64 (x13_1 + 1)))) = some (r1, r2) := by rw [if_neg (show ¬ (false = true) by decide)] at H; exact H
                  clear H
                  have H := H1
                  clear H1
                  by_cases c10 : (wrap64 (a1 + (wrap64 (7 * x13_1)))) < 64
                  · rw [if_pos c10] at H
                    have c10b0 : decide ((wrap64 (a1 + (wrap64 (7 * x13_1)))) < 64) = true := decide_eq_true c10
                    clear c10
                    obtain ⟨ji11, hji11⟩ : ∃ j_ : Int, (wrap64 (a1 + (wrap64 (7 * x13_1)))) = j_ := ⟨_, rfl⟩
                    replace H : (if 0 ≤ (ji11) then (num_sum.l0 kj5 a1 (Go.bits .or .u64 x6_1 (shl .u64 (IntKind.u64.wrap (Go.bits .and .u8 (rd l0 x13_1) 127)) (ji11))) l0 (l0.length : Int) (wrap64 (x13_1 + 1))) else (none)) = some (r1, r2) := by first | (rw [hji11] at H; exact H) | (simp only [hji11] at H ⊢; exact H)
                    (try rw [hji11] at c10b0)
                    have hji11w : (IntKind.i64.wrap (a1 + (wrap64 (7 * x13_1)))) = ji11 := (i64_w _).trans hji11
                    by_cases c12 : 0 ≤ (ji11)
                    · rw [if_pos c12] at H
                      have c12b0 := eq_true c12
                      have c12b1 : decide (0 ≤ (ji11)) = true := decide_eq_true c12
                      clear c12
                      obtain ⟨ji13, hji13⟩ : ∃ j_ : Int, (shl .u64 (IntKind.u64.wrap (Go.bits .and .u8 (rd l0 x13_1) 127)) (ji11)) = j_ := ⟨_, rfl⟩
                      replace H : (num_sum.l0 kj5 a1 (Go.bits .or .u64 x6_1 (ji13)) l0 (l0.length : Int) (wrap64 (x13_1 + 1))) = some (r1, r2) := by first | (rw [hji13] at H; exact H) | (simp only [hji13] at H ⊢; exact H)
                      have hji13_ : (IntKind.u64.wrap ((IntKind.u64.wrap (Go.bits .and .u8 (rd l0 x13_1) 127)) * 2 ^ min (ji11).toNat 64)) = ji13 := hji13
                      have hji13z : (ji11) ≤ 64 → (IntKind.u64.wrap ((IntKind.u64.wrap (Go.bits .and .u8 (rd l0 x13_1) 127)) * 2 ^ (ji11).toNat)) = ji13 := shl_small hji13
                      have H' := Aside0.mk H
                      clear H
                      go_wp2
                      go_roundg kj5
                      case measure => have := HK1.out; have := HJ5.out; omega
                      case rel => exact ⟨(Go.bits .or .u64 x6_1 (ji13)), (wrap64 (x13_1 + 1)), (by first | rfl | (simp; done) | (simp only [← hji13] <;> (first | rfl | simp)) | (simp [*]; done)), (by first | rfl | (simp; done) | (simp [*]; done)), H', ⟨by have := HK1.out; have := HJ5.out; omega⟩, by repeat (first | exact Drawn0.refl _ | apply Drawn0.step)⟩
                    · rw [if_neg c12] at H
                      exact absurd H (by simp)
                  · rw [if_neg c10] at H
                    have c10b0 : decide ((wrap64 (a1 + (wrap64 (7 * x13_1)))) < 64) = false := decide_eq_false c10
                    clear c10
                    have H' := Aside0.mk H
                    clear H
                    go_wp2
                    go_roundg kj5
                    case measure => have := HK1.out; have := HJ5.out; omega
                    case rel => exact ⟨(x6_1), (wrap64 (x13_1 + 1)), (by first | rfl | (simp; done) | (simp [*]; done)), (by first | rfl | (simp; done) | (simp [*]; done)), H', ⟨by have := HK1.out; have := HJ5.out; omega⟩, by repeat (first | exact Drawn0.refl _ | apply Drawn0.step)⟩
          · rw [if_neg c5] at H
            exact absurd H (by simp)
        · rw [if_neg c4] at H
          exact absurd H (by simp)
      · rw [if_neg c3] at H
        have c3b0 : decide (x13_1 < (l0.length : Int)) = false := decide_eq_false c3
        clear c3
        simp only [Option.some.injEq, Prod.mk.injEq] at H
        obtain ⟨rfl, rfl⟩ := H
        go_wp2
        go_ret2
        exact ⟨by first | rfl | (simp; done) | (simp [*]; done), by repeat (first | exact Drawn0.refl _ | apply Drawn0.step)⟩

/-! ### num_Size: function 29 -/
def num_Size.f (l0 : List Int) (a1 : Int) : Option (Int × Int × Int) := if inBytes l0 = true ∧ l0.length ≤ 140737488355328 then some (sizeF l0 a1) else none
theorem num_Size.calls (A0 : Option Addr) (c0 : Nat) (l0 : List Int) (a1 : Int) (r1 : Int) (r2 : Int) (r3 : Int) (w : World) (hr0 : Kd.C (Kd.int .u8) w A0 l0.length l0) (hc0 : l0.length ≤ c0) (h : num_Size.f l0 a1 = some (r1, r2, r3)) :
    Calls Try.prog 29 #[.slice A0 l0.length c0, .int .i64 a1] w fun e w' => e = .returned (.tuple #[.int .u64 r1, .int .i64 r2, .int .i64 r3]) ∧ Drawn0 w w' := by
  unfold num_Size.f at h
  split at h
  · rename_i hb
    have h := Option.some.inj h
    exact (size_calls A0 c0 l0 a1 w (readsC hr0) hc0 hb.2 (inBytes_iff.1 hb.1)).mono fun e w' ⟨he, hw⟩ => ⟨by rw [h] at he; exact he, hw ▸ Drawn0.refl _⟩
  · cases h


-- NOT PRINTED: function 63 (delta_span)

-- NOT PRINTED: function 52 (delta_run)

/-! ### delta_Apply: function 37 -/
def delta_Apply.f (l0 : List Int) (l1 : List Int) (a2 : Int) : Option (List Int × Int) := if inBytes l1 = true ∧ l0.length ≤ 1099511627776 ∧ l1.length ≤ 1099511627776 then some ((applyF l0 l1 a2).2, (applyF l0 l1 a2).1) else none
theorem delta_Apply.calls (A0 : Option Addr) (c0 : Nat) (l0 : List Int) (A1 : Option Addr) (c1 : Nat) (l1 : List Int) (a2 : Int) (r1 : List Int) (r2 : Int) (w : World) (hr0 : Kd.C (Kd.int .u8) w A0 l0.length l0) (hc0 : l0.length ≤ c0) (hr1 : Kd.C (Kd.int .u8) w A1 l1.length l1) (hc1 : l1.length ≤ c1) (h : delta_Apply.f l0 l1 a2 = some (r1, r2)) :
    Calls Try.prog 37 #[.slice A0 l0.length c0, .slice A1 l1.length c1, .int .i64 a2] w fun e w' => ∃ v0_ : Value, e = .returned (.tuple #[v0_, .int .i64 r2]) ∧ Kd.R (Kd.int .u8) 5 w' w.heap.size (fun _ => True) v0_ r1 ∧ Below w.heap.size w w' := by
  unfold delta_Apply.f at h
  split at h
  · rename_i hb
    simp only [Option.some.injEq, Prod.mk.injEq] at h
    obtain ⟨rfl, rfl⟩ := h
    exact (dapply_calls A0 A1 c0 c1 l0 l1 a2 w (readsC hr0) hc0 (readsC hr1) hc1 hb.2.1 hb.2.2 (inBytes_iff.1 hb.1)).mono fun e w' ⟨v, he, hv, hbl⟩ => ⟨v, he, Bs.toR hv, hbl⟩
  · cases h


-- NOT PRINTED: function 59 (slices_Clip_byte_byte)

-- NOT PRINTED: function 67 (slices_Grow_byte_byte)

-- NOT PRINTED: function 60 (slices_Concat_byte_byte)

-- NOT PRINTED: function 44 (num_more)

/-! ### num_PutSize: function 22 -/
def num_PutSize.f (l0 : List Int) (a1 : Int) : Option (List Int) := if l0.length ≤ 140737488355000 ∧ 0 ≤ a1 ∧ a1 < 18446744073709551616 then some (l0 ++ sizeL 10 a1) else none
theorem num_PutSize.calls (A0 : Option Addr) (c0 : Nat) (l0 : List Int) (a1 : Int) (r : List Int) (w : World) (hr0 : Kd.C (Kd.int .u8) w A0 l0.length l0) (hc0 : l0.length ≤ c0) (h : num_PutSize.f l0 a1 = some r) :
    Calls Try.prog 22 #[.slice A0 l0.length c0, .int .u64 a1] w fun e w' => ∃ v0_ : Value, e = .returned (v0_) ∧ Kd.R (Kd.int .u8) 5 w' w.heap.size (fun _ => True) v0_ r ∧ Below w.heap.size w w' := by
  unfold num_PutSize.f at h
  split at h
  · rename_i hb
    obtain rfl := Option.some.inj h
    exact (putSize_calls A0 c0 l0 a1 w (readsC hr0) hb.1 hb.2.1 hb.2.2).mono fun e w' ⟨v, he, hv, hbl⟩ => ⟨v, he, Bs.toR hv, hbl⟩
  · cases h


/-! ### delta_same: function 56 -/
def delta_same.l0 : Nat → List Int → List Int → Int → Option (Int)
  | 0, _, _, _ => none
  | k + 1, x0, x1, x5 => if x5 < (x0.length : Int) then (if x5 < (x1.length : Int) then (if 0 ≤ x5 then (if (rd x0 x5) = (rd x1 x5) then (delta_same.l0 k x0 x1 (wrap64 (x5 + 1))) else (some x5)) else (none)) else (some x5)) else (some x5)
def delta_same.f (k : Nat) (l0 : List Int) (l1 : List Int) : Option (Int) := delta_same.l0 k l0 l1 0
theorem delta_same.mono_l : ∀ k, (∀ y0 y1 y2, LeO (delta_same.l0 k y0 y1 y2) (delta_same.l0 (k + 1) y0 y1 y2))
  | 0 => fun _ _ _ r h => by simp [delta_same.l0] at h
  | k + 1 => by
    have ih0 := delta_same.mono_l k
    · intro y0 y1 y2
      unfold delta_same.l0
      repeat' first
      | (with_reducible exact ih0 _ _ _)
      | (with_reducible exact LeO.refl _)
      | (with_reducible exact LeO.none _)
      | (with_reducible refine LeO.ite ?_ ?_)
      | (with_reducible refine LeO.bind ?_ (fun _ => ?_))
      | exact ih0 _ _ _
      | exact LeO.none _
      | refine LeO.ite ?_ ?_
      | refine LeO.bind ?_ (fun _ => ?_)
theorem delta_same.mono : ∀ a0 a1 k, LeO (delta_same.f k a0 a1) (delta_same.f (k + 1) a0 a1) := by
  intro a0 a1 k
  have ih0 := delta_same.mono_l k
  unfold delta_same.f
  repeat' first
      | (with_reducible exact ih0 _ _ _)
      | (with_reducible exact LeO.refl _)
      | (with_reducible exact LeO.none _)
      | (with_reducible refine LeO.ite ?_ ?_)
      | (with_reducible refine LeO.bind ?_ (fun _ => ?_))
      | exact ih0 _ _ _
      | exact LeO.none _
      | refine LeO.ite ?_ ?_
      | refine LeO.bind ?_ (fun _ => ?_)
set_option maxHeartbeats 8000000 in
set_option maxRecDepth 100000 in
theorem delta_same.calls (k : Nat) (A0 : Option Addr) (c0 : Nat) (l0 : List Int) (A1 : Option Addr) (c1 : Nat) (l1 : List Int) (r : Int) (w : World) (hr0 : Kd.C (Kd.int .u8) w A0 l0.length l0) (hc0 : l0.length ≤ c0) (hr1 : Kd.C (Kd.int .u8) w A1 l1.length l1) (hc1 : l1.length ≤ c1) (h : delta_same.f k l0 l1 = some r) :
    Calls Try.prog 56 #[.slice A0 l0.length c0, .slice A1 l1.length c1] w fun e w' => e = .returned (.int .i64 r) ∧ Drawn0 w w' := by
  have HR0 := Aside0.mk hr0
  have HC0 := Aside0.mk hc0
  clear hr0 hc0
  have HR1 := Aside0.mk hr1
  have HC1 := Aside0.mk hc1
  clear hr1 hc1
  have H : (delta_same.l0 k l0 l1 0) = some r := h
  clear h
  have H' := Aside0.mk H
  clear H
  go_enter Try.func56, Try.ntmps56
  go_wp2
  repeat (go_quiet (fail); try go_wp2)
  go_loopg [5] k (fun kq v5 w' => ∃ (x5_1 : Int), v5 = .int .i64 x5_1 ∧ Aside0 (delta_same.l0 kq l0 l1 x5_1 = some r) ∧ Aside0 (kq ≤ k) ∧ Drawn0 w w')
  case atStart => exact ⟨(0), (by first | rfl | (simp; done) | (simp [*]; done)), H', ⟨Nat.le_refl _⟩, by repeat (first | exact Drawn0.refl _ | apply Drawn0.step)⟩
  case round =>
    clear H'
    try clear c1
    try clear p2
    obtain ⟨x5_1, rfl, HA, HK1, ⟨m1, rfl⟩⟩ := hrel
    cases gk with
    | zero => exact absurd HA.out (by simp [delta_same.l0])
    | succ k1 =>
      have H := HA.out
      clear HA
      simp only [delta_same.l0] at H
      by_cases c3 : x5_1 < (l0.length : Int)
      · rw [if_pos c3] at H
        have c3b0 : decide (x5_1 < (l0.length : Int)) = true := decide_eq_true c3
        clear c3
        by_cases c4 : x5_1 < (l1.length : Int)
        · rw [if_pos c4] at H
          have c4b0 : decide (x5_1 < (l1.length : Int)) = true := decide_eq_true c4
          clear c4
          by_cases c5 : 0 ≤ x5_1
          · rw [if_pos c5] at H
            have c5b0 : decide (0 ≤ x5_1) = true := decide_eq_true c5
            clear c5
            by_cases c6 : (rd l0 x5_1) = (rd l1 x5_1)
            · rw [if_pos c6] at H
              have c6b0 : ((rd l0 x5_1) == (rd l1 x5_1)) = true := beq_iff_eq.mpr c6
              have c6b1 : ((rd l0 x5_1) != (rd l1 x5_1)) = false := bne_eq_false_iff_eq.mpr c6
              clear c6
              have H' := Aside0.mk H
              clear H
              have p108 : 0 ≤ (x5_1 : Int) := of_decide_eq_true (by first | (with_reducible assumption) | assumption)
              have q108 : x5_1 < (l0.length : Int) := of_decide_eq_true (by first | (with_reducible assumption) | assumption)
              obtain ⟨ad108, e108, hx108_0⟩ := Kd.at_int HR0.out x5_1 p108 q108
              cases e108
              replace p108 := eq_true p108
              replace q108 := eq_true q108
              have p109 : 0 ≤ (x5_1 : Int) := of_decide_eq_true (by first | (with_reducible assumption) | assumption)
              have q109 : x5_1 < (l1.length : Int) := of_decide_eq_true (by first | (with_reducible assumption) | assumption)
              obtain ⟨ad109, e109, hx109_0⟩ := Kd.at_int HR1.out x5_1 p109 q109
              cases e109
              replace p109 := eq_true p109
              replace q109 := eq_true q109
              go_wp2
              repeat (go_quiet (fail); try go_wp2)
              go_roundg k1
              case measure => have := HK1.out; omega
              case rel => exact ⟨(wrap64 (x5_1 + 1)), (by first | rfl | (simp; done) | (simp [*]; done)), H', ⟨by have := HK1.out; omega⟩, by repeat (first | exact Drawn0.refl _ | apply Drawn0.step)⟩
            · rw [if_neg c6] at H
              have c6b0 : ((rd l0 x5_1) == (rd l1 x5_1)) = false := beq_eq_false_iff_ne.mpr c6
              have c6b1 : ((rd l0 x5_1) != (rd l1 x5_1)) = true := bne_iff_ne.mpr c6
              obtain rfl := Option.some.inj H
              have p108 : 0 ≤ (x5_1 : Int) := of_decide_eq_true (by first | (with_reducible assumption) | assumption)
              have q108 : x5_1 < (l0.length : Int) := of_decide_eq_true (by first | (with_reducible assumption) | assumption)
              obtain ⟨ad108, e108, hx108_0⟩ := Kd.at_int HR0.out x5_1 p108 q108
              cases e108
              replace p108 := eq_true p108
              replace q108 := eq_true q108
              have p109 : 0 ≤ (x5_1 : Int) := of_decide_eq_true (by first | (with_reducible assumption) | assumption)
              have q109 : x5_1 < (l1.length : Int) := of_decide_eq_true (by first | (with_reducible assumption) | assumption)
              obtain ⟨ad109, e109, hx109_0⟩ := Kd.at_int HR1.out x5_1 p109 q109
              cases e109
              replace p109 := eq_true p109
              replace q109 := eq_true q109
              go_wp2
              repeat (go_quiet (fail); try go_wp2)
              go_ret
              exact ⟨by first | rfl | (simp; done) | (simp [*]; done), by repeat (first | exact Drawn0.refl _ | apply Drawn0.step)⟩
          · rw [if_neg c5] at H
            exact absurd H (by simp)
        · rw [if_neg c4] at H
          have c4b0 : decide (x5_1 < (l1.length : Int)) = false := decide_eq_false c4
          clear c4
          obtain rfl := Option.some.inj H
          go_wp2
          repeat (go_quiet (fail); try go_wp2)
          go_ret
          exact ⟨by first | rfl | (simp; done) | (simp [*]; done), by repeat (first | exact Drawn0.refl _ | apply Drawn0.step)⟩
      · rw [if_neg c3] at H
        have c3b0 : decide (x5_1 < (l0.length : Int)) = false := decide_eq_false c3
        clear c3
        obtain rfl := Option.some.inj H
        go_wp2
        repeat (go_quiet (fail); try go_wp2)
        go_ret
        exact ⟨by first | rfl | (simp; done) | (simp [*]; done), by repeat (first | exact Drawn0.refl _ | apply Drawn0.step)⟩

-- NOT PRINTED: function 54 (slices_Clone_byte_byte)

/-! ### delta_PutCopy: function 39 -/
def delta_PutCopy.f (l0 : List Int) (a1 : Int) (a2 : Int) : Option (List Int × Int) := if l0.length ≤ 140737488351240 then some (putCopyF l0 a1 a2) else none
theorem delta_PutCopy.calls (A0 : Option Addr) (c0 : Nat) (l0 : List Int) (a1 : Int) (a2 : Int) (r1 : List Int) (r2 : Int) (w : World) (hr0 : Kd.C (Kd.int .u8) w A0 l0.length l0) (hc0 : l0.length ≤ c0) (h : delta_PutCopy.f l0 a1 a2 = some (r1, r2)) :
    Calls Try.prog 39 #[.slice A0 l0.length c0, .int .i64 a1, .int .i64 a2] w fun e w' => ∃ v0_ : Value, e = .returned (.tuple #[v0_, .int .i64 r2]) ∧ Kd.R (Kd.int .u8) 5 w' w.heap.size (fun _ => True) v0_ r1 ∧ Below w.heap.size w w' := by
  unfold delta_PutCopy.f at h
  split at h
  · rename_i hb
    have h := Option.some.inj h
    have e1 : (putCopyF l0 a1 a2).1 = r1 := congrArg Prod.fst h
    have e2 : (putCopyF l0 a1 a2).2 = r2 := congrArg Prod.snd h
    subst e1 e2
    exact (putCopy_calls A0 c0 l0 a1 a2 w (readsC hr0) hb).mono fun e w' ⟨v, he, hv, hbl⟩ => ⟨v, he, Bs.toR hv, hbl⟩
  · cases h


-- NOT PRINTED: function 66 (slices_Chunk_byte_byte)

-- NOT PRINTED: function 58 (delta_maker_flush)

-- NOT PRINTED: function 57 (delta_maker_copy)

/-! ### delta_Make: function 41 -/
def delta_Make.f (l0 : List Int) (l1 : List Int) : Option (List Int × Int) := if inBytes l0 = true ∧ inBytes l1 = true ∧ l0.length ≤ 1048576 ∧ l1.length ≤ 1048576 then some (makeF l0 l1, 0) else none
theorem delta_Make.calls (A0 : Option Addr) (c0 : Nat) (l0 : List Int) (A1 : Option Addr) (c1 : Nat) (l1 : List Int) (r1 : List Int) (r2 : Int) (w : World) (hr0 : Kd.C (Kd.int .u8) w A0 l0.length l0) (hc0 : l0.length ≤ c0) (hr1 : Kd.C (Kd.int .u8) w A1 l1.length l1) (hc1 : l1.length ≤ c1) (h : delta_Make.f l0 l1 = some (r1, r2)) :
    Calls Try.prog 41 #[.slice A0 l0.length c0, .slice A1 l1.length c1] w fun e w' => ∃ v0_ : Value, e = .returned (.tuple #[v0_, .int .i64 r2]) ∧ Kd.R (Kd.int .u8) 5 w' w.heap.size (fun _ => True) v0_ r1 ∧ Below w.heap.size w w' := by
  unfold delta_Make.f at h
  split at h
  · rename_i hb
    simp only [Option.some.injEq, Prod.mk.injEq] at h
    obtain ⟨rfl, rfl⟩ := h
    exact (make_calls A0 A1 c0 c1 l0 l1 w hb.2.2.1 hb.2.2.2 hc0 hc1 (readsC hr0) (readsC hr1) (inBytes_iff.1 hb.1) (inBytes_iff.1 hb.2.1)).mono fun e w' ⟨v, he, hv, hbl⟩ => ⟨v, he, Bs.toR hv, hbl⟩
  · cases h


/-! ### codicillaw08_awake: function 36 -/
def codicillaw08_awake.f : Option (Bool) := some true
theorem codicillaw08_awake.calls (r : Bool) (w : World) (h : codicillaw08_awake.f = some r) :
    Calls Try.prog 36 #[] w fun e w' => e = .returned (.bool r) ∧ Below w.heap.size w w' := by
  obtain rfl := Option.some.inj h
  exact dawake_calls w


/-! ### codicillaw08_DeltaMemory: function 14 -/
def codicillaw08_DeltaMemory.Pure : Prop := True
theorem kept_yes (l : List Int) (h : l.length ≤ 1000000) : codicilref01_Kept.f l (l ++ [41, 42, 43, 44]) = some true := by
  unfold codicilref01_Kept.f
  rw [if_pos ⟨rfl, by simp; omega⟩]
theorem kept_walk (A : Option Addr) (c : Nat) (l : List Int) (g cap base : Nat) (w w1 : World) (hl : ReadsInt w1 .u8 A l.length l) (hc : l.length ≤ c) (hm : l.length ≤ 1000000)
    (hf : w.ownsRow base 5 1 (.slice (some ⟨g, 0, none⟩) (l.length + 4) cap) (l.length + 4) (nums .u8 (l ++ [41, 42, 43, 44]))) (hb : Below w.heap.size w w1) :
    Calls Try.prog 27 #[.slice A l.length c, .slice (some ⟨g, 0, none⟩) (l.length + 4) cap] w1 fun e w' => e = .returned (.bool true) ∧ Below w1.heap.size w1 w' := by
  have hlen4 : (l ++ [41, 42, 43, 44] : List Int).length = l.length + 4 := by simp
  have hfr : ReadsInt w1 .u8 (some ⟨g, 0, none⟩) (l ++ [41, 42, 43, 44]).length (l ++ [41, 42, 43, 44]) := by
    have h := own_reads' (pw_own_below hf hb)
    rw [hlen4]
    exact h
  have hk := codicilref01_Kept.calls A c l (some ⟨g, 0, none⟩) cap (l ++ [41, 42, 43, 44]) true w1 (toC hl) hc (toC hfr) (by rw [hlen4]; exact (own_cap hf).1) (kept_yes l hm)
  rw [hlen4] at hk
  exact hk
theorem spare_walk (A : Option Addr) (c : Nat) (l : List Int) (w : World) (hl : ReadsInt w .u8 A l.length l) (hm : l.length ≤ 1000000) :
    Calls Try.prog 26 #[.slice A l.length c] w fun e w' => ∃ g cap, e = .returned (.tuple #[.slice (some ⟨g, 0, none⟩) l.length cap, .slice (some ⟨g, 0, none⟩) (l.length + 4) cap]) ∧ w'.ownsRow w.heap.size 5 1 (.slice (some ⟨g, 0, none⟩) (l.length + 4) cap) (l.length + 4) (nums .u8 (l ++ [41, 42, 43, 44])) ∧ ReadsInt w' .u8 (some ⟨g, 0, none⟩) l.length l ∧ l.length + 4 ≤ cap ∧ Below w.heap.size w w' := by
  refine (spare_calls A c l w hl (by omega)).mono ?_
  rintro e w1 ⟨g, cap, rfl, hf1, hb1⟩
  have hfo : w1.ownsRow w.heap.size 5 1 (.slice (some ⟨g, 0, none⟩) (l.length + 4) cap) (l.length + 4) (nums .u8 (l ++ [41, 42, 43, 44])) := by simpa [Bs] using hf1
  refine ⟨g, cap, rfl, hfo, ?_, (own_cap hfo).1, hb1⟩
  have h := (own_reads' hfo).take_ l.length (by omega)
  simpa using h
set_option maxHeartbeats 8000000 in
set_option maxRecDepth 100000 in
theorem deltaMemory_calls (A : Option Addr) (c : Nat) (l : List Int) (B : Option Addr) (cB : Nat) (t : List Int) (w : World) (hl : ReadsInt w .u8 A l.length l) (hc : l.length ≤ c) (hby : ∀ x ∈ l, 0 ≤ x ∧ x < 256) (ht : ReadsInt w .u8 B t.length t) (hcB : t.length ≤ cB) (hbt : ∀ x ∈ t, 0 ≤ x ∧ x < 256) :
    Calls Try.prog 14 #[.slice A l.length c, .slice B t.length cB] w fun e w' => e = .returned (.bool true) ∧ Below w.heap.size w w' := by
  have HL := Lib.hid hl
  have HT := Lib.hid ht
  have HBY := Lib.hid hby
  have HBT := Lib.hid hbt
  have HCC := Lib.hid (show l.length ≤ c ∧ t.length ≤ cB from ⟨hc, hcB⟩)
  have HAW := Lib.hid (show codicillaw08_awake.f = some true from rfl)
  clear hl hby ht hbt hc hcB
  by_cases hbig : 5000 < l.length
  · have hbI : (l.length : Int) > 5000 := by omega
    go_enter Try.func14, Try.ntmps14
    go_wp2_with fail
    refine (codicillaw08_awake.calls true _ HAW.out).mono ?_
    rintro e w0 ⟨rfl, hb0⟩
    have HB0 := Lib.hid hb0
    clear hb0
    go_wp2_with fail
    go_ret
    exact ⟨rfl, HB0.out⟩
  have hbI : ¬ (l.length : Int) > 5000 := by omega
  by_cases hbig2 : 5000 < t.length
  · have hbJ : (t.length : Int) > 5000 := by omega
    go_enter Try.func14, Try.ntmps14
    go_wp2_with fail
    refine (codicillaw08_awake.calls true _ HAW.out).mono ?_
    rintro e w0 ⟨rfl, hb0⟩
    have HB0 := Lib.hid hb0
    clear hb0
    go_wp2_with fail
    go_ret
    exact ⟨rfl, HB0.out⟩
  have hbJ : ¬ (t.length : Int) > 5000 := by omega
  have HM := Lib.hid (show l.length ≤ 5000 ∧ t.length ≤ 5000 from ⟨by omega, by omega⟩)
  obtain ⟨D, hD⟩ : ∃ D, makeF l t = D := ⟨_, rfl⟩
  have HAP := Lib.hid (show applyF l D t.length = (0, t) from by rw [← hD]; exact apply_make l t (by omega) (by omega))
  have HBD := Lib.hid (show ∀ x ∈ D, 0 ≤ x ∧ x < 256 from by rw [← hD]; exact make_bytes l t HBT.out)
  have HDL := Lib.hid (show D.length ≤ 20000 from by rw [← hD]; have := make_len l t; omega)
  have HD := Lib.hid hD
  clear hD hbig hbig2
  go_enter Try.func14, Try.ntmps14
  go_wp2_with fail
  refine (codicillaw08_awake.calls true _ HAW.out).mono ?_
  rintro e w0 ⟨rfl, hb0⟩
  have HB0 := Lib.hid hb0
  clear hb0
  go_wp2_with fail
  refine (spare_walk _ _ l _ (HL.out.below HB0.out) (by have := HM.out; omega)).mono ?_
  rintro e w1 ⟨g1, cap1, rfl, hf1, hx1, hk1, hb1⟩
  have HF1 := Lib.hid hf1
  have HX1 := Lib.hid hx1
  have HK1 := Lib.hid hk1
  have HB1 := Lib.hid hb1
  have HW1 := Lib.hid (below_then HB0.out HB0.out.size HB1.out)
  clear hf1 hx1 hb1 hk1
  go_wp2_with fail
  refine (spare_walk _ _ t _ (HT.out.below HW1.out) (by have := HM.out; omega)).mono ?_
  rintro e w2 ⟨g2, cap2, rfl, hf2, hx2, hk2, hb2⟩
  have HF2 := Lib.hid hf2
  have HX2 := Lib.hid hx2
  have HK2 := Lib.hid hk2
  have HB2 := Lib.hid hb2
  clear hf2 hx2 hb2 hk2
  go_wp2_with fail
  have hmk := make_calls (some ⟨g1, 0, none⟩) (some ⟨g2, 0, none⟩) cap1 cap2 l t w2 (by have := HM.out; omega) (by have := HM.out; omega) (by have := HK1.out; omega) (by have := HK2.out; omega) (HX1.out.below HB2.out) HX2.out HBY.out HBT.out
  rw [HD.out] at hmk
  refine hmk.mono ?_
  rintro e w3 ⟨rd, rfl, hd3, hb3⟩
  obtain ⟨Ad, nd, cd, rfl, od, hnd⟩ := hd3.open_
  have hnd' := hnd.out
  subst hnd'
  have HB3 := Lib.hid hb3
  have HDC := Lib.hid (own_cap od.out).1
  have H13 := Lib.hid (below_then HB2.out HB2.out.size HB3.out)
  have HW3 := Lib.hid (below_then HW1.out HW1.out.size H13.out)
  clear hd3 hb3 hmk
  go_wp2_with fail
  refine (kept_walk A c l g1 cap1 _ w1 w3 (HL.out.below HW3.out) HCC.out.1 (by have := HM.out; omega) HF1.out H13.out).mono ?_
  rintro e w4 ⟨rfl, hb4⟩
  have HB4 := Lib.hid hb4
  clear hb4
  have H24 := Lib.hid (below_then HB3.out HB3.out.size HB4.out)
  have HW4 := Lib.hid (below_then HW3.out HW3.out.size HB4.out)
  go_wp2_with fail
  refine (kept_walk B cB t g2 cap2 _ w2 w4 (HT.out.below HW4.out) HCC.out.2 (by have := HM.out; omega) HF2.out H24.out).mono ?_
  rintro e w5 ⟨rfl, hb5⟩
  have HB5 := Lib.hid hb5
  clear hb5
  have H35 := Lib.hid (below_then HB4.out HB4.out.size HB5.out)
  have H15 := Lib.hid (below_then H13.out H13.out.size H35.out)
  have HW5 := Lib.hid (below_then HW4.out HW4.out.size HB5.out)
  go_wp2_with fail
  refine (spare_walk Ad cd D _ (own_reads' (pw_own_below od.out H35.out)) (by have := HDL.out; omega)).mono ?_
  rintro e w6 ⟨g6, cap6, rfl, hf6, hx6, hk6, hb6⟩
  have HF6 := Lib.hid hf6
  have HX6 := Lib.hid hx6
  have HK6 := Lib.hid hk6
  have HB6 := Lib.hid hb6
  have H16 := Lib.hid (below_then H15.out H15.out.size HB6.out)
  have H36 := Lib.hid (below_then H35.out H35.out.size HB6.out)
  have HW6 := Lib.hid (below_then HW5.out HW5.out.size HB6.out)
  clear hf6 hx6 hb6 hk6
  go_wp2_with fail
  have hap := dapply_calls (some ⟨g1, 0, none⟩) (some ⟨g6, 0, none⟩) cap1 cap6 l D t.length w6 (HX1.out.below H16.out) (by have := HK1.out; omega) HX6.out (by have := HK6.out; omega) (by have := HM.out; omega) (by have := HDL.out; omega) HBD.out
  rw [HAP.out] at hap
  refine hap.mono ?_
  rintro e w7 ⟨ra, rfl, ha7, hb7⟩
  obtain ⟨Aa, na, ca, rfl, oa, hna⟩ := ha7.open_
  have HB7 := Lib.hid hb7
  have H17 := Lib.hid (below_then H16.out H16.out.size HB7.out)
  have HW7 := Lib.hid (below_then HW6.out HW6.out.size HB7.out)
  clear ha7 hb7 hap
  go_wp2_with fail
  have hap := dapply_calls (some ⟨g1, 0, none⟩) (some ⟨g6, 0, none⟩) cap1 cap6 l D t.length w7 (HX1.out.below H17.out) (by have := HK1.out; omega) (HX6.out.below HB7.out) (by have := HK6.out; omega) (by have := HM.out; omega) (by have := HDL.out; omega) HBD.out
  rw [HAP.out] at hap
  refine hap.mono ?_
  rintro e w8 ⟨rb, rfl, hb8', hb8⟩
  obtain ⟨Ab, nb, cb, rfl, ob, hnb⟩ := hb8'.open_
  have HB8 := Lib.hid hb8
  have H68 := Lib.hid (below_then HB7.out HB7.out.size HB8.out)
  have H18 := Lib.hid (below_then H17.out H17.out.size HB8.out)
  have H38 := Lib.hid (below_then H36.out H36.out.size H68.out)
  have HW8 := Lib.hid (below_then HW7.out HW7.out.size HB8.out)
  clear hb8' hb8 hap
  go_wp2_with fail
  refine (kept_walk A c l g1 cap1 _ w1 w8 (HL.out.below HW8.out) HCC.out.1 (by have := HM.out; omega) HF1.out H18.out).mono ?_
  rintro e w9 ⟨rfl, hb9⟩
  have HB9 := Lib.hid hb9
  clear hb9
  have H69 := Lib.hid (below_then H68.out H68.out.size HB9.out)
  have H39 := Lib.hid (below_then H38.out H38.out.size HB9.out)
  have HW9 := Lib.hid (below_then HW8.out HW8.out.size HB9.out)
  go_wp2_with fail
  refine (kept_walk Ad cd D g6 cap6 _ w6 w9 (own_reads' (pw_own_below od.out H39.out)) HDC.out (by have := HDL.out; omega) HF6.out H69.out).mono ?_
  rintro e w10 ⟨rfl, hb10⟩
  have HB10 := Lib.hid hb10
  clear hb10
  have h910 : Below w9.heap.size w9 w10 := HB10.out
  have h810 : Below w8.heap.size w8 w10 := below_then HB9.out HB9.out.size h910
  have h710 : Below w7.heap.size w7 w10 := below_then HB8.out HB8.out.size h810
  have h610 : Below w6.heap.size w6 w10 := below_then HB7.out HB7.out.size h710
  have h310 : Below w3.heap.size w3 w10 := below_then H36.out H36.out.size h610
  have h210 : Below w2.heap.size w2 w10 := below_then HB3.out HB3.out.size h310
  have h110 : Below w1.heap.size w1 w10 := below_then HB2.out HB2.out.size h210
  have hw10 : Below w.heap.size w w10 := below_then HW9.out HW9.out.size h910
  go_wp2_with fail
  obtain ⟨vs, hvs⟩ : ∃ vs : List Value, vs = [.slice (some ⟨g1, 0, none⟩) (l.length + 4) cap1, .slice (some ⟨g2, 0, none⟩) (t.length + 4) cap2, .slice (some ⟨g6, 0, none⟩) (D.length + 4) cap6, .slice Ad D.length cd, .slice Aa na ca] := ⟨_, rfl⟩
  have hall : OwnAll 5 w10 vs := by
    subst hvs
    intro v hv
    simp only [List.mem_cons, List.not_mem_nil, or_false] at hv
    rcases hv with rfl | rfl | rfl | rfl | rfl
    · exact ⟨_, _, _, pw_own_below HF1.out h110⟩
    · exact ⟨_, _, _, pw_own_below HF2.out h210⟩
    · exact ⟨_, _, _, pw_own_below HF6.out h610⟩
    · exact ⟨_, _, _, pw_own_below od.out h310⟩
    · exact ⟨_, _, _, pw_own_below oa.out h710⟩
  have hge : ∀ k, k ∈ blocksOf vs → w.heap.size ≤ k := by
    subst hvs
    intro k hk
    obtain ⟨v, hv, hb⟩ := mem_blocksOf.1 hk
    have s0 := HB0.out.size
    have s1 := HW1.out.size
    have s3 := HW3.out.size
    have s5 := HW5.out.size
    have s6 := HW6.out.size
    have s2 := below_then HW1.out HW1.out.size HB2.out |>.size
    simp only [List.mem_cons, List.not_mem_nil, or_false] at hv
    rcases hv with rfl | rfl | rfl | rfl | rfl
    · have := own_base HF1.out k hb; omega
    · have := own_base HF2.out k hb; omega
    · have := own_base HF6.out k hb; omega
    · have := own_base od.out k hb; omega
    · have := own_base oa.out k hb; omega
  have hlt : ∀ k, k ∈ blocksOf vs → k < w10.heap.size := by
    intro k hk
    obtain ⟨v, hv, hb⟩ := mem_blocksOf.1 hk
    obtain ⟨_, _, _, ho⟩ := hall v hv
    exact own_lt ho k hb
  have hbn : ∀ k, Value.ownBlock (.slice Ab nb cb) = some k → k ∉ blocksOf vs := by
    subst hvs
    intro k hk hm
    obtain ⟨v, hv, hb⟩ := mem_blocksOf.1 hm
    have b1 := own_base ob.out k hk
    have s2 := HB2.out.size
    have s3 := HB3.out.size
    have s6 := H36.out.size
    have s7 := HB7.out.size
    simp only [List.mem_cons, List.not_mem_nil, or_false] at hv
    rcases hv with rfl | rfl | rfl | rfl | rfl
    · have := own_lt HF1.out k hb; omega
    · have := own_lt HF2.out k hb; omega
    · have := own_lt HF6.out k hb; omega
    · have := own_lt od.out k hb; omega
    · have := own_lt oa.out k hb; omega
  have hob := pw_own_below ob.out h810
  have HVS := Lib.hid hvs
  have HALL := Lib.hid hall
  have HGE := Lib.hid hge
  have HLT := Lib.hid hlt
  have HBN := Lib.hid hbn
  have HOB := Lib.hid hob
  have HW10 := Lib.hid hw10
  clear hvs hall hge hlt hbn hob hw10 h910 h810 h710 h610 h310 h210 h110
  go_loopw [98] (fun i wr => ∃ k : Nat, k ≤ 5 ∧ i = .int .i64 k ∧ Smash 5 (blocksOf vs) (w10.alloc (.cells vs.toArray 22)) wr) (fun i _ => 5 - (intOf i).toNat)
  case atStart =>
    refine ⟨0, by omega, rfl, ?_⟩
    have h : OwnAll 5 (w10.alloc (.cells vs.toArray 22)) vs := fun v hv => by
      obtain ⟨a, b, c, ho⟩ := HALL.out v hv
      exact ⟨a, b, c, ho.alloc _⟩
    have h2 := h.smash
    rw [HVS.out] at h2 ⊢
    exact h2
  case round =>
    obtain ⟨k, hk, rfl, hS⟩ := hrel
    have HS := Lib.hid hS
    clear hS
    obtain ⟨wo, rfl⟩ : ∃ wo : World, wo = wr := ⟨_, rfl⟩
    by_cases hlt : k < 5
    · obtain ⟨An, nn, cn, e1, e2, e3⟩ := HALL.out.may k (by rw [HVS.out]; simpa using hlt)
      have hcell : wo.cell? ⟨w10.heap.size, k, none⟩ = some (.slice An nn cn) := by
        rw [HS.out.cell_far (heap_alloc_new w10 _) (fun hm => by have := HLT.out _ hm; omega)]
        simpa using e1
      have E3 := Lib.hid e3
      clear e1 e3
      go_wp2_with fail
      go_loopw [104] (fun i wr => ∃ j : Nat, j ≤ nn ∧ i = .int .i64 j ∧ Smash 5 (blocksOf vs) (w10.alloc (.cells vs.toArray 22)) wr) (fun i _ => nn - (intOf i).toNat)
      case atStart => exact ⟨0, by omega, rfl, HS.out⟩
      case round =>
        obtain ⟨j, hj, rfl, hT⟩ := hrel
        have HT2 := Lib.hid hT
        clear hT hcell
        by_cases hjl : j < nn
        · obtain ⟨gn, hAn, hgn, hln⟩ := E3.out (by omega)
          subst hAn
          have hln' : nn ≤ blockLen (w10.alloc (.cells vs.toArray 22)) gn := by
            have : (w10.alloc (.cells vs.toArray 22)).heap[gn]? = w10.heap[gn]? := Below.heap_alloc w10 _ gn (HLT.out _ hgn)
            unfold blockLen at hln ⊢
            rw [this]
            exact hln
          obtain ⟨u0, hu1, hu2⟩ := HT2.out.cell hgn (Nat.lt_of_lt_of_le hjl hln')
          clear hln hln'
          go_wp2_with fail
          go_roundw
          case rel => exact ⟨j + 1, hjl, by go_num, HT2.out.set hgn _ _⟩
          case measure => simp [intOf]; omega
        · go_wp2_with fail
          go_roundw
          case rel => exact ⟨k + 1, hlt, by go_num, HT2.out⟩
          case measure => simp [intOf]; omega
    · go_wp2_with fail
      have hbl : Below w.heap.size w wo := HS.out.below (HW10.out.alloc HW10.out.size _) HGE.out
      have hob := HS.out.own (HOB.out.alloc (.cells vs.toArray 22)) HBN.out
      have hs : codicilref01_Same.f t t = some true := by simp [codicilref01_Same.f]
      have hcb := own_cap hob
      have hr1 := own_reads' hob
      have hnb' := hnb.out
      subst hnb'
      have hcall := codicilref01_Same.calls Ab cb _ B cB _ true wo (toC hr1) hcb.1 (toC (HT.out.below hbl)) HCC.out.2 hs
      have HBL := Lib.hid hbl
      clear hr1 hcb hs hbl hob
      refine hcall.mono ?_
      rintro e wv ⟨rfl, hd⟩
      obtain ⟨n3, rfl⟩ := hd.out
      clear hcall hd
      go_wp2_with fail
      go_ret
      exact ⟨rfl, pw_below_drewN HBL.out _⟩
theorem codicillaw08_DeltaMemory.walk (P : codicillaw08_DeltaMemory.Pure) (a0 : Option Addr) (len0 cap0 : Nat) (z0 : List Int) (a1 : Option Addr) (len1 cap1 : Nat) (z1 : List Int) (w : World)
    (w0 : (a0 = none ∧ len0 = 0 ∧ cap0 = 0 ∧ z0 = []) ∨ ∃ x, a0 = some x ∧ len0 ≤ cap0 ∧ cap0 ≤ maxLen ∧ z0.length = cap0 ∧ (∀ i, i < z0.length → w.cell? (x.add i) = some (.int .u8 (z0.getD i 0))) ∧ ∀ n ∈ z0, (Lit.int .u8 n).wf = true)
    (y0 : len0 * 1 ≤ 140737488351232)
    (w1 : (a1 = none ∧ len1 = 0 ∧ cap1 = 0 ∧ z1 = []) ∨ ∃ x, a1 = some x ∧ len1 ≤ cap1 ∧ cap1 ≤ maxLen ∧ z1.length = cap1 ∧ (∀ i, i < z1.length → w.cell? (x.add i) = some (.int .u8 (z1.getD i 0))) ∧ ∀ n ∈ z1, (Lit.int .u8 n).wf = true) (y1 : len1 * 1 ≤ 140737488351232) :
    Calls Try.prog 14 #[.slice a0 len0 cap0, .slice a1 len1 cap1] w fun e w' => e = .returned (.bool true) ∧ Below w.heap.size w w' := by
  obtain ⟨l0, rfl, hr0, hm0, hw0, hc0⟩ := ReadsInt.ofRowC w0
  obtain ⟨l1, rfl, hr1, hm1, hw1, hc1⟩ := ReadsInt.ofRowC w1
  exact deltaMemory_calls _ _ l0 _ _ l1 w hr0 hc0 (fun x hx => by have := hw0 x hx; simp [Lit.wf, IntKind.min, IntKind.max, IntKind.signed, IntKind.bits] at this; omega) hr1 hc1 (fun x hx => by have := hw1 x hx; simp [Lit.wf, IntKind.min, IntKind.max, IntKind.signed, IntKind.bits] at this; omega)


end Go.Proofs.Ytiocipmnmjpkfaa.PDY
