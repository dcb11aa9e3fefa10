-- Written by fprint.py, a program of this session, over the translation. Not trusted: Lean checks it.
import Derived.Test.YtkdklcamgcmifaaDoorPMx0
namespace Go.Proofs.YtkdklcamgcmifaaDoor.PM
open Go.RowKit Go.Proofs.YtkdklcamgcmifaaDoorW.PrintWords Go.Proofs.YtkdklcamgcmifaaDoorW.PrintLast Go.Proofs.YtkdklcamgcmifaaDoorW.PrintMore
attribute [local go_sem] max2_int min2_int max_two min_two max_three min_three max_four min_four   -- for this text's walks alone
set_option linter.unusedVariables false
set_option linter.unusedSimpArgs false

/-! ### codicilref01_Same: function 15 -/
def codicilref01_Same.f (l0 : List Int) (l1 : List Int) : Option (Bool) := some ((strOfNums l0).toList == (strOfNums l1).toList)
set_option maxHeartbeats 8000000 in
set_option maxRecDepth 100000 in
theorem codicilref01_Same.calls (A0 : Option Addr) (c0 : Nat) (l0 : List Int) (A1 : Option Addr) (c1 : Nat) (l1 : List Int) (r : Bool) (w : World) (hr0 : Kd.C (Kd.int .u8) w A0 l0.length l0) (hc0 : l0.length ≤ c0) (hr1 : Kd.C (Kd.int .u8) w A1 l1.length l1) (hc1 : l1.length ≤ c1) (h : codicilref01_Same.f l0 l1 = some r) :
    Calls Tryd.prog 15 #[.slice A0 l0.length c0, .slice A1 l1.length c1] w fun e w' => e = .returned (.bool r) ∧ Drawn0 w w' := by
  have HR0 := Aside0.mk hr0
  have HC0 := Aside0.mk hc0
  clear hr0 hc0
  have HR1 := Aside0.mk hr1
  have HC1 := Aside0.mk hc1
  clear hr1 hc1
  have H : (some ((strOfNums l0).toList == (strOfNums l1).toList)) = some r := h
  clear h
  obtain rfl := Option.some.inj H
  have hcv3 := Kd.C_string (P := Tryd.prog) (A := A0) (c := c0) Tryd.underlying22 Tryd.underlying5 Tryd.underlying9 HR0.out
  have hcv4 := Kd.C_string (P := Tryd.prog) (A := A1) (c := c1) Tryd.underlying22 Tryd.underlying5 Tryd.underlying9 HR1.out
  go_enter Tryd.func15, Tryd.ntmps15
  go_wp2
  go_ret
  exact ⟨by first | rfl | (simp; done) | (simp [*]; done), by repeat (first | exact Drawn0.refl _ | apply Drawn0.step)⟩

/-! ### codicilref01_Spare: function 17 -/
set_option maxRecDepth 8000 in
set_option maxHeartbeats 1000000 in
theorem spare_calls (A : Option Addr) (c : Nat) (l : List Int) (w : World) (hl : ReadsInt w .u8 A l.length l) (hn : l.length + 8 ≤ 140737488355328) :
    Calls Tryd.prog 17 #[.slice A l.length c] w fun e w' => ∃ g cap, e = .returned (.tuple #[.slice (some ⟨g, 0, none⟩) l.length cap, .slice (some ⟨g, 0, none⟩) (l.length + 4) cap]) ∧ Bs 5 w' w.heap.size (.slice (some ⟨g, 0, none⟩) (l.length + 4) cap) (l ++ [41, 42, 43, 44]) ∧ Below w.heap.size w w' := by
  have HL := Lib.hid hl
  clear hl
  have hmk := make_room (P := Tryd.prog) 22 5 (.int .u8 0) 1 Tryd.underlying22 infoU8 rfl ((l.length : Int) + 4) (l.length + 4) (by omega) (by omega) (by omega)
  go_enter Tryd.func17, Tryd.ntmps17
  go_wp2_with (first | (at_builtin; refine brow_append_row' (w0 := w) w.heap.size rfl (.tmp 9) (.tmp 10) 22 5 rfl Tryd.underlying22 infoU8 (.slice (some ⟨w.heap.size, 0, none⟩) 0 (l.length + 4)) [] l A l.length c rfl rfl (own_room w w.heap.size 5 (.int .u8 0) (l.length + 4) (Nat.le_refl _) (by simp only [maxLen]; omega)) (HL.out.allocS _) (below_alloc (Below.refl _ _) _) (by simp) (by simp; omega) ?_; intro v1 w1 hown1 hb1; have HO1 := Lib.hid hown1; have HB1 := Lib.hid hb1; clear hown1 hb1) | (at_builtin; refine brow_append_row' (w0 := w) w.heap.size rfl (.tmp 12) (.tmp 13) 22 5 rfl Tryd.underlying22 infoU8 v1 ([] ++ l) [41, 42, 43, 44] (some ⟨w1.heap.size, 0, none⟩) 4 4 rfl rfl (pw_own_below HO1.out (below_alloc (Below.refl _ _) _)) (own_reads' (own_lit w1 _ 5 .u8 [41, 42, 43, 44] (Nat.le_refl _) (by simp))) (HB1.out.alloc HB1.out.size _) (by have := HB1.out.size; simp; omega) (by simp; omega) ?_; intro v2 w2 hown2 hb2; have HO2 := Lib.hid hown2; have HB2 := Lib.hid hb2; clear hown2 hb2; obtain ⟨g, cap, hv2, _, _⟩ := World.ownsRow.form HO2.out (by simp); rw [show ([] ++ l ++ [41, 42, 43, 44] : List Int).length = l.length + 4 from by simp] at hv2; subst hv2; have hcap : l.length + 4 ≤ cap := (own_cap (n := l.length + 4) (by simpa [Bs] using HO2.out)).1; have hcap0 : l.length ≤ cap := (by omega)))
  go_ret2
  refine ⟨g, cap, rfl, ?_, HB2.out⟩
  have := HO2.out
  simpa using this


/-! ### codicilref01_Kept: function 18 -/
def codicilref01_Kept.f (l0 : List Int) (l1 : List Int) : Option (Bool) := if l1 = l0 ++ [41, 42, 43, 44] ∧ l1.length ≤ 9223372036854775807 then some true else none
set_option maxRecDepth 8000 in
set_option maxHeartbeats 1000000 in
theorem codicilref01_Kept.calls (A0 : Option Addr) (c0 : Nat) (l0 : List Int) (A1 : Option Addr) (c1 : Nat) (l1 : List Int) (r : Bool) (w : World) (hr0 : Kd.C (Kd.int .u8) w A0 l0.length l0) (hc0 : l0.length ≤ c0) (hr1 : Kd.C (Kd.int .u8) w A1 l1.length l1) (hc1 : l1.length ≤ c1) (h : codicilref01_Kept.f l0 l1 = some r) :
    Calls Tryd.prog 18 #[.slice A0 l0.length c0, .slice A1 l1.length c1] w fun e w' => e = .returned (.bool r) ∧ Below w.heap.size w w' := by
  unfold codicilref01_Kept.f at h
  split at h
  · rename_i hb
    obtain rfl := Option.some.inj h
    obtain ⟨he, hlm⟩ := hb
    have hlen : l1.length = l0.length + 4 := by rw [he]; simp
    have HR0 := Lib.hid hr0
    have HR1 := Lib.hid (Kd.reads_of_C (enc := Value.int .u8) (d := 0) hr1)
    have HE := Lib.hid he
    clear hr0 hr1 he h
    rw [hlen] at hc1 hlm
    rw [hlen]
    have h1 : (((l0.length : Int) + 4) == ((l0.length : Int) + 4)) = true := by simp
    have e1 : l1.take l0.length = l0 := by rw [HE.out]; simp
    have e2 : l1.drop l0.length = [41, 42, 43, 44] := by rw [HE.out]; simp
    obtain ⟨i011, hi011, _, hsz11, _⟩ := info_parts infoU8
    have hr1' := HR1.out
    rw [hlen] at hr1'
    obtain ⟨A2, hcut, hA2⟩ := print_cut_of (P := Tryd.prog) (Value.int .u8) 0 22 5 .i64 Tryd.underlying22 hi011 hsz11 A1 (l0.length + 4) c1 l0.length (by omega)
    have hr2 := hA2 w l1 hc1 hr1'
    rw [show l0.length + 4 - l0.length = 4 from by omega, e2] at hr2
    rw [show l0.length + 4 - l0.length = 4 from by omega] at hcut
    have hrt : ReadsOf (Value.int .u8) 0 w A1 l0.length l0 := by
      have h := hr1'.take_ l0.length (by omega)
      rwa [e1] at h
    have HT := Lib.hid hrt
    have H2 := Lib.hid hr2
    clear hrt hr2 hA2 hr1' e1 e2 hlen hi011 hsz11
    have hs1 : codicilref01_Same.f l0 l0 = some true := by simp [codicilref01_Same.f]
    have hs2 : codicilref01_Same.f [41, 42, 43, 44] [41, 42, 43, 44] = some true := by simp [codicilref01_Same.f]
    have HS1 := Lib.hid hs1
    have HS2 := Lib.hid hs2
    clear hs1 hs2
    go_enter Tryd.func18, Tryd.ntmps18
    go_wp2_with fail
    refine (codicilref01_Same.calls _ _ l0 _ _ l0 true _ (Kd.C_of_reads HT.out) (by omega) HR0.out hc0 HS1.out).mono ?_
    rintro e w1 ⟨rfl, hd⟩
    obtain ⟨n1, rfl⟩ := hd.out
    go_wp2_with fail
    refine (codicilref01_Same.calls A2 _ [41, 42, 43, 44] _ _ [41, 42, 43, 44] true _ (Kd.C_of_reads (H2.out.below ?_)) (by simp; omega) (toC ?_) (by simp) HS2.out).mono ?_
    · exact below_alloc (pw_below_drewN (Below.refl _ _) _) _
    · exact own_reads' (own_lit (w.drewN n1) _ 5 .u8 [41, 42, 43, 44] (Nat.le_refl _) (by simp))
    rintro e w1 ⟨rfl, hd⟩
    obtain ⟨n2, rfl⟩ := hd.out
    go_wp2_with fail
    go_ret
    exact ⟨rfl, pw_below_drewN (below_alloc (pw_below_drewN (Below.refl _ _) _) _) _⟩
  · cases h


/-! ### zlib_Adler: function 24 -/
def zlib_Adler.l0 : Nat → Int → Int → List Int → Int → Int → Option (Int)
  | 0, _, _, _, _, _ => none
  | k + 1, x3, x4, x7, x8, x9 => if x9 < x8 then (if 0 ≤ x9 then (if x9 < (x7.length : Int) then (if (Int.tmod x9 2000) = 1999 then (zlib_Adler.l0 k (Int.tmod (wrap64 (x3 + (wrap64 (rd x7 x9)))) 65521) (Int.tmod (wrap64 (x4 + (wrap64 (x3 + (wrap64 (rd x7 x9)))))) 65521) x7 x8 (wrap64 (x9 + 1))) else (zlib_Adler.l0 k (wrap64 (x3 + (wrap64 (rd x7 x9)))) (wrap64 (x4 + (wrap64 (x3 + (wrap64 (rd x7 x9)))))) x7 x8 (wrap64 (x9 + 1)))) else (none)) else (none)) else (some (Go.bits .or .u32 ((((Int.tmod x4 65521) % 4294967296) * 65536) % 4294967296) ((Int.tmod x3 65521) % 4294967296)))
def zlib_Adler.f (k : Nat) (l0 : List Int) : Option (Int) := zlib_Adler.l0 k 1 0 l0 (l0.length : Int) 0
theorem zlib_Adler.mono_l : ∀ k, (∀ y0 y1 y2 y3 y4, LeO (zlib_Adler.l0 k y0 y1 y2 y3 y4) (zlib_Adler.l0 (k + 1) y0 y1 y2 y3 y4))
  | 0 => fun _ _ _ _ _ r h => by simp [zlib_Adler.l0] at h
  | k + 1 => by
    have ih0 := zlib_Adler.mono_l k
    · intro y0 y1 y2 y3 y4
      unfold zlib_Adler.l0
      repeat' first
      | (with_reducible exact ih0 _ _ _ _ _)
      | (with_reducible exact LeO.refl _)
      | (with_reducible exact LeO.none _)
      | (with_reducible refine LeO.ite ?_ ?_)
      | (with_reducible refine LeO.bind ?_ (fun _ => ?_))
      | exact ih0 _ _ _ _ _
      | exact LeO.none _
      | refine LeO.ite ?_ ?_
      | refine LeO.bind ?_ (fun _ => ?_)
theorem zlib_Adler.mono : ∀ a0 k, LeO (zlib_Adler.f k a0) (zlib_Adler.f (k + 1) a0) := by
  intro a0 k
  have ih0 := zlib_Adler.mono_l k
  unfold zlib_Adler.f
  repeat' first
      | (with_reducible exact ih0 _ _ _ _ _)
      | (with_reducible exact LeO.refl _)
      | (with_reducible exact LeO.none _)
      | (with_reducible refine LeO.ite ?_ ?_)
      | (with_reducible refine LeO.bind ?_ (fun _ => ?_))
      | exact ih0 _ _ _ _ _
      | exact LeO.none _
      | refine LeO.ite ?_ ?_
      | refine LeO.bind ?_ (fun _ => ?_)
set_option maxHeartbeats 8000000 in
set_option maxRecDepth 100000 in
theorem zlib_Adler.calls (k : Nat) (A0 : Option Addr) (c0 : Nat) (l0 : List Int) (r : Int) (w : World) (hr0 : Kd.C (Kd.int .u8) w A0 l0.length l0) (hc0 : l0.length ≤ c0) (h : zlib_Adler.f k l0 = some r) :
    Calls Tryd.prog 24 #[.slice A0 l0.length c0] w fun e w' => e = .returned (.int .u32 r) ∧ Drawn0 w w' := by
  have HR0 := Aside0.mk hr0
  have HC0 := Aside0.mk hc0
  clear hr0 hc0
  have H : (zlib_Adler.l0 k 1 0 l0 (l0.length : Int) 0) = some r := h
  clear h
  have H' := Aside0.mk H
  clear H
  go_enter Tryd.func24, Tryd.ntmps24
  go_wp2
  go_loopg [3, 4, 9] k (fun kq v3 v4 v9 w' => ∃ (x3_1 : Int) (x4_1 : Int) (x9_1 : Int), v3 = .int .i64 x3_1 ∧ v4 = .int .i64 x4_1 ∧ v9 = .int .i64 x9_1 ∧ Aside0 (zlib_Adler.l0 kq x3_1 x4_1 l0 (l0.length : Int) x9_1 = some r) ∧ Aside0 (kq ≤ k) ∧ Drawn0 w w')
  case atStart => exact ⟨(1), (0), (0), (by first | rfl | (simp; done) | (simp [*]; done)), (by first | rfl | (simp; done) | (simp [*]; done)), (by first | rfl | (simp; done) | (simp [*]; done)), H', ⟨Nat.le_refl _⟩, by repeat (first | exact Drawn0.refl _ | apply Drawn0.step)⟩
  case round =>
    clear H'
    obtain ⟨x3_1, x4_1, x9_1, rfl, rfl, rfl, HA, HK1, ⟨m1, rfl⟩⟩ := hrel
    cases gk with
    | zero => exact absurd HA.out (by simp [zlib_Adler.l0])
    | succ k1 =>
      have H := HA.out
      clear HA
      simp only [zlib_Adler.l0] at H
      by_cases c2 : x9_1 < (l0.length : Int)
      · rw [if_pos c2] at H
        have c2b0 : decide (x9_1 < (l0.length : Int)) = true := decide_eq_true c2
        clear c2
        by_cases c3 : 0 ≤ x9_1
        · rw [if_pos c3] at H
          have c3b0 : decide (0 ≤ x9_1) = true := decide_eq_true c3
          clear c3
          by_cases c4 : x9_1 < (l0.length : Int)
          · rw [if_pos c4] at H
            have c4b0 : decide (x9_1 < (l0.length : Int)) = true := decide_eq_true c4
            clear c4
            by_cases c5 : (Int.tmod x9_1 2000) = 1999
            · rw [if_pos c5] at H
              have c5b0 : ((Int.tmod x9_1 2000) == 1999) = true := beq_iff_eq.mpr c5
              have c5b1 : ((Int.tmod x9_1 2000) != 1999) = false := bne_eq_false_iff_eq.mpr c5
              clear c5
              have H' := Aside0.mk H
              clear H
              have p101 : 0 ≤ (x9_1 : Int) := of_decide_eq_true (by first | (with_reducible assumption) | assumption)
              have q101 : x9_1 < (l0.length : Int) := of_decide_eq_true (by first | (with_reducible assumption) | assumption)
              obtain ⟨ad101, e101, hx101_0⟩ := Kd.at_int HR0.out x9_1 p101 q101
              cases e101
              replace p101 := eq_true p101
              replace q101 := eq_true q101
              go_wp2
              go_roundg k1
              case measure => have := HK1.out; omega
              case rel => exact ⟨(Int.tmod (wrap64 (x3_1 + (wrap64 (rd l0 x9_1)))) 65521), (Int.tmod (wrap64 (x4_1 + (wrap64 (x3_1 + (wrap64 (rd l0 x9_1)))))) 65521), (wrap64 (x9_1 + 1)), (by first | rfl | (simp; done) | (simp [*]; done)), (by first | rfl | (simp; done) | (simp [*]; done)), (by first | rfl | (simp; done) | (simp [*]; done)), H', ⟨by have := HK1.out; omega⟩, by repeat (first | exact Drawn0.refl _ | apply Drawn0.step)⟩
            · rw [if_neg c5] at H
              have c5b0 : ((Int.tmod x9_1 2000) == 1999) = false := beq_eq_false_iff_ne.mpr c5
              have c5b1 : ((Int.tmod x9_1 2000) != 1999) = true := bne_iff_ne.mpr c5
              have H' := Aside0.mk H
              clear H
              have p101 : 0 ≤ (x9_1 : Int) := of_decide_eq_true (by first | (with_reducible assumption) | assumption)
              have q101 : x9_1 < (l0.length : Int) := of_decide_eq_true (by first | (with_reducible assumption) | assumption)
              obtain ⟨ad101, e101, hx101_0⟩ := Kd.at_int HR0.out x9_1 p101 q101
              cases e101
              replace p101 := eq_true p101
              replace q101 := eq_true q101
              go_wp2
              go_roundg k1
              case measure => have := HK1.out; omega
              case rel => exact ⟨(wrap64 (x3_1 + (wrap64 (rd l0 x9_1)))), (wrap64 (x4_1 + (wrap64 (x3_1 + (wrap64 (rd l0 x9_1)))))), (wrap64 (x9_1 + 1)), (by first | rfl | (simp; done) | (simp [*]; done)), (by first | rfl | (simp; done) | (simp [*]; done)), (by first | rfl | (simp; done) | (simp [*]; done)), H', ⟨by have := HK1.out; omega⟩, by repeat (first | exact Drawn0.refl _ | apply Drawn0.step)⟩
          · rw [if_neg c4] at H
            exact absurd H (by simp)
        · rw [if_neg c3] at H
          exact absurd H (by simp)
      · rw [if_neg c2] at H
        have c2b0 : decide (x9_1 < (l0.length : Int)) = false := decide_eq_false c2
        clear c2
        obtain rfl := Option.some.inj H
        go_wp2
        go_ret
        exact ⟨by first | rfl | (simp; done) | (simp [*]; done), by repeat (first | exact Drawn0.refl _ | apply Drawn0.step)⟩

/-! ### zlib_Crc: function 25 -/
mutual
def zlib_Crc.l0 : Nat → Int → List Int → Int → Int → Option (Int)
  | 0, _, _, _, _ => none
  | k + 1, x3, x6, x7, x8 => if x8 < x7 then (if 0 ≤ x8 then (if x8 < (x6.length : Int) then (zlib_Crc.l1 k (Go.bits .xor .u32 x3 ((rd x6 x8) % 4294967296)) x6 x7 x8 0) else (none)) else (none)) else (some (Go.bits .xor .u32 4294967295 x3))
def zlib_Crc.l1 : Nat → Int → List Int → Int → Int → Int → Option (Int)
  | 0, _, _, _, _, _ => none
  | k + 1, x3, x6, x7, x8, x16 => if x16 < 8 then (zlib_Crc.l1 k (Go.bits .xor .u32 (x3 / 2) (Go.bits .and .u32 3988292384 ((-(Go.bits .and .u32 x3 1)) % 4294967296))) x6 x7 x8 (wrap64 (x16 + 1))) else (zlib_Crc.l0 k x3 x6 x7 (wrap64 (x8 + 1)))
end
def zlib_Crc.f (k : Nat) (l0 : List Int) : Option (Int) := zlib_Crc.l0 k 4294967295 l0 (l0.length : Int) 0
theorem zlib_Crc.mono_l : ∀ k, (∀ y0 y1 y2 y3, LeO (zlib_Crc.l0 k y0 y1 y2 y3) (zlib_Crc.l0 (k + 1) y0 y1 y2 y3)) ∧ (∀ y0 y1 y2 y3 y4, LeO (zlib_Crc.l1 k y0 y1 y2 y3 y4) (zlib_Crc.l1 (k + 1) y0 y1 y2 y3 y4))
  | 0 => ⟨fun _ _ _ _ r h => by simp [zlib_Crc.l0] at h, fun _ _ _ _ _ r h => by simp [zlib_Crc.l1] at h⟩
  | k + 1 => by
    obtain ⟨ih0, ih1⟩ := zlib_Crc.mono_l k
    refine ⟨?_, ?_⟩
    · intro y0 y1 y2 y3
      unfold zlib_Crc.l0
      repeat' first
      | (with_reducible exact ih0 _ _ _ _)
      | (with_reducible exact ih1 _ _ _ _ _)
      | (with_reducible exact LeO.refl _)
      | (with_reducible exact LeO.none _)
      | (with_reducible refine LeO.ite ?_ ?_)
      | (with_reducible refine LeO.bind ?_ (fun _ => ?_))
      | exact ih0 _ _ _ _
      | exact ih1 _ _ _ _ _
      | exact LeO.none _
      | refine LeO.ite ?_ ?_
      | refine LeO.bind ?_ (fun _ => ?_)
    · intro y0 y1 y2 y3 y4
      unfold zlib_Crc.l1
      repeat' first
      | (with_reducible exact ih0 _ _ _ _)
      | (with_reducible exact ih1 _ _ _ _ _)
      | (with_reducible exact LeO.refl _)
      | (with_reducible exact LeO.none _)
      | (with_reducible refine LeO.ite ?_ ?_)
      | (with_reducible refine LeO.bind ?_ (fun _ => ?_))
      | exact ih0 _ _ _ _
      | exact ih1 _ _ _ _ _
      | exact LeO.none _
      | refine LeO.ite ?_ ?_
      | refine LeO.bind ?_ (fun _ => ?_)
theorem zlib_Crc.mono : ∀ a0 k, LeO (zlib_Crc.f k a0) (zlib_Crc.f (k + 1) a0) := by
  intro a0 k
  obtain ⟨ih0, ih1⟩ := zlib_Crc.mono_l k
  unfold zlib_Crc.f
  repeat' first
      | (with_reducible exact ih0 _ _ _ _)
      | (with_reducible exact ih1 _ _ _ _ _)
      | (with_reducible exact LeO.refl _)
      | (with_reducible exact LeO.none _)
      | (with_reducible refine LeO.ite ?_ ?_)
      | (with_reducible refine LeO.bind ?_ (fun _ => ?_))
      | exact ih0 _ _ _ _
      | exact ih1 _ _ _ _ _
      | exact LeO.none _
      | refine LeO.ite ?_ ?_
      | refine LeO.bind ?_ (fun _ => ?_)
set_option maxHeartbeats 8000000 in
set_option maxRecDepth 100000 in
theorem zlib_Crc.calls (k : Nat) (A0 : Option Addr) (c0 : Nat) (l0 : List Int) (r : Int) (w : World) (hr0 : Kd.C (Kd.int .u8) w A0 l0.length l0) (hc0 : l0.length ≤ c0) (h : zlib_Crc.f k l0 = some r) :
    Calls Tryd.prog 25 #[.slice A0 l0.length c0] w fun e w' => e = .returned (.int .u32 r) ∧ Drawn0 w w' := by
  have HR0 := Aside0.mk hr0
  have HC0 := Aside0.mk hc0
  clear hr0 hc0
  have H : (zlib_Crc.l0 k 4294967295 l0 (l0.length : Int) 0) = some r := h
  clear h
  have H' := Aside0.mk H
  clear H
  go_enter Tryd.func25, Tryd.ntmps25
  go_wp2
  go_loopg [3, 8] k (fun kq v3 v8 w' => ∃ (x3_1 : Int) (x8_1 : Int), v3 = .int .u32 x3_1 ∧ v8 = .int .i64 x8_1 ∧ Aside0 (zlib_Crc.l0 kq x3_1 l0 (l0.length : Int) x8_1 = some r) ∧ Aside0 (kq ≤ k) ∧ Drawn0 w w')
  case atStart => exact ⟨(4294967295), (0), (by first | rfl | (simp; done) | (simp [*]; done)), (by first | rfl | (simp; done) | (simp [*]; done)), H', ⟨Nat.le_refl _⟩, by repeat (first | exact Drawn0.refl _ | apply Drawn0.step)⟩
  case round =>
    clear H'
    obtain ⟨x3_1, x8_1, rfl, rfl, HA, HK1, ⟨m1, rfl⟩⟩ := hrel
    cases gk with
    | zero => exact absurd HA.out (by simp [zlib_Crc.l0])
    | succ k1 =>
      have H := HA.out
      clear HA
      simp only [zlib_Crc.l0] at H
      by_cases c2 : x8_1 < (l0.length : Int)
      · rw [if_pos c2] at H
        have c2b0 : decide (x8_1 < (l0.length : Int)) = true := decide_eq_true c2
        clear c2
        by_cases c3 : 0 ≤ x8_1
        · rw [if_pos c3] at H
          have c3b0 : decide (0 ≤ x8_1) = true := decide_eq_true c3
          clear c3
          by_cases c4 : x8_1 < (l0.length : Int)
          · rw [if_pos c4] at H
            have c4b0 : decide (x8_1 < (l0.length : Int)) = true := decide_eq_true c4
            clear c4
            have H' := Aside0.mk H
            clear H
            have p102 : 0 ≤ (x8_1 : Int) := of_decide_eq_true (by first | (with_reducible assumption) | assumption)
            have q102 : x8_1 < (l0.length : Int) := of_decide_eq_true (by first | (with_reducible assumption) | assumption)
            obtain ⟨ad102, e102, hx102_0⟩ := Kd.at_int HR0.out x8_1 p102 q102
            cases e102
            replace p102 := eq_true p102
            replace q102 := eq_true q102
            go_wp2
            go_loopg [3, 16] k1 (fun kq v3 v16 w' => ∃ (x3_2 : Int) (x16_2 : Int), v3 = .int .u32 x3_2 ∧ v16 = .int .i64 x16_2 ∧ Aside0 (zlib_Crc.l1 kq x3_2 l0 (l0.length : Int) x8_1 x16_2 = some r) ∧ Aside0 (kq ≤ k1) ∧ Drawn0 w w')
            case atStart => exact ⟨(Go.bits .xor .u32 x3_1 ((rd l0 x8_1) % 4294967296)), (0), (by first | rfl | (simp; done) | (simp [*]; done)), (by first | rfl | (simp; done) | (simp [*]; done)), H', ⟨Nat.le_refl _⟩, by repeat (first | exact Drawn0.refl _ | apply Drawn0.step)⟩
            case round =>
              clear H'
              try clear p1
              try clear q1
              try clear hx1
              try clear c2
              try clear c2b0
              try clear p2
              try clear c3
              try clear c3b0
              try clear c4
              try clear c4b0
              try clear hx102_0
              try clear p102
              try clear q102
              obtain ⟨x3_2, x16_2, rfl, rfl, HA, HK2, ⟨m2, rfl⟩⟩ := hrel
              cases gk with
              | zero => exact absurd HA.out (by simp [zlib_Crc.l1])
              | succ k2 =>
                have H := HA.out
                clear HA
                simp only [zlib_Crc.l1] at H
                by_cases c5 : x16_2 < 8
                · rw [if_pos c5] at H
                  have c5b0 : decide (x16_2 < 8) = true := decide_eq_true c5
                  clear c5
                  have H' := Aside0.mk H
                  clear H
                  go_wp2
                  go_roundg k2
                  case measure => have := HK1.out; have := HK2.out; omega
                  case rel => exact ⟨(Go.bits .xor .u32 (x3_2 / 2) (Go.bits .and .u32 3988292384 ((-(Go.bits .and .u32 x3_2 1)) % 4294967296))), (wrap64 (x16_2 + 1)), (by first | rfl | (simp; done) | (simp [*]; done)), (by first | rfl | (simp; done) | (simp [*]; done)), H', ⟨by have := HK1.out; have := HK2.out; omega⟩, by repeat (first | exact Drawn0.refl _ | apply Drawn0.step)⟩
                · rw [if_neg c5] at H
                  have c5b0 : decide (x16_2 < 8) = false := decide_eq_false c5
                  clear c5
                  have H' := Aside0.mk H
                  clear H
                  go_wp2
                  go_roundg k2
                  case measure => have := HK1.out; have := HK2.out; omega
                  case rel => exact ⟨(x3_2), (wrap64 (x8_1 + 1)), (by first | rfl | (simp; done) | (simp [*]; done)), (by first | rfl | (simp; done) | (simp [*]; done)), H', ⟨by have := HK1.out; have := HK2.out; omega⟩, by repeat (first | exact Drawn0.refl _ | apply Drawn0.step)⟩
          · rw [if_neg c4] at H
            exact absurd H (by simp)
        · rw [if_neg c3] at H
          exact absurd H (by simp)
      · rw [if_neg c2] at H
        have c2b0 : decide (x8_1 < (l0.length : Int)) = false := decide_eq_false c2
        clear c2
        obtain rfl := Option.some.inj H
        go_wp2
        go_ret
        exact ⟨by first | rfl | (simp; done) | (simp [*]; done), by repeat (first | exact Drawn0.refl _ | apply Drawn0.step)⟩

/-! ### codicillaw05_awake: function 21 -/
def codicillaw05_awake.f : Option (Bool) := some true
theorem awake5_1 : zlib_Adler.f 20 [97, 98, 99] = some 38600999 := by decide +kernel
theorem awake5_2 : zlib_Crc.f 300 [49, 50, 51, 52, 53, 54, 55, 56, 57] = some 3421780262 := by decide +kernel
theorem awake5_3 (W : World) : ReadsInt (W.alloc (.cells #[.int .u8 97, .int .u8 98, .int .u8 99] 5 (3, 4))) .u8 (some ⟨W.heap.size, 0, none⟩) 3 [97, 98, 99] := const_reads W 5 [97, 98, 99] _ _ rfl (by decide)
theorem awake5_4 (W : World) : ReadsInt (W.alloc (.cells #[.int .u8 49, .int .u8 50, .int .u8 51, .int .u8 52, .int .u8 53, .int .u8 54, .int .u8 55, .int .u8 56, .int .u8 57] 5 (9, 10))) .u8 (some ⟨W.heap.size, 0, none⟩) 9 [49, 50, 51, 52, 53, 54, 55, 56, 57] := const_reads W 5 [49, 50, 51, 52, 53, 54, 55, 56, 57] _ _ rfl (by decide)
set_option maxRecDepth 8000 in
set_option maxHeartbeats 1000000 in
theorem codicillaw05_awake.calls (r : Bool) (w : World) (h : codicillaw05_awake.f = some r) :
    Calls Tryd.prog 21 #[] w fun e w' => e = .returned (.bool r) ∧ Below w.heap.size w w' := by
  obtain rfl := Option.some.inj h
  have kc := fun (w : World) (C : Array Value) (n c : Nat) => Lib.run_convert_bytes_const (P := Tryd.prog) w 22 5 C n c Tryd.underlying22 Tryd.underlying5
  go_enter Tryd.func21, Tryd.ntmps21
  go_wp2_with fail
  refine (zlib_Adler.calls 20 _ 3 [97, 98, 99] _ _ (toC (awake5_3 w)) (by decide) awake5_1).mono ?_
  rintro e w1 ⟨rfl, hd⟩
  have HB1 := Lib.hid (show Below w.heap.size w w1 from below_then (below_alloc (Below.refl _ _) _) (below_alloc (Below.refl _ _) _).size hd.below)
  clear hd
  go_wp2_with fail
  refine (zlib_Crc.calls 300 _ 9 [49, 50, 51, 52, 53, 54, 55, 56, 57] _ _ (toC (awake5_4 w1)) (by decide) awake5_2).mono ?_
  rintro e w2 ⟨rfl, hd⟩
  have HB2 := Lib.hid (show Below w.heap.size w w2 from below_then (below_alloc HB1.out _) (below_alloc HB1.out _).size hd.below)
  clear hd
  go_wp2_with fail
  go_ret
  exact ⟨rfl, HB2.out⟩


/-! ### deflate_stored: function 36 -/
/-- The bytes of the stream of way 0, of one block. -/
def storedB (l : List Int) : List Int := [1, (l.length : Int) % 256, (l.length : Int) / 256, Go.bits .xor .u8 255 ((l.length : Int) % 256), Go.bits .xor .u8 255 ((l.length : Int) / 256)] ++ l
set_option maxRecDepth 8000 in
set_option maxHeartbeats 4000000 in
theorem stored_calls (w : World) (A : Option Addr) (c : Nat) (l : List Int) (hl : ReadsInt w .u8 A l.length l) (hc : l.length ≤ c) (hm : l.length ≤ 65534) :
    Calls Tryd.prog 36 #[.slice A l.length c] w fun e w' => ∃ v, e = .returned v ∧ Bs 5 w' w.heap.size v (storedB l) ∧ Below w.heap.size w w' := by
  have HL := Lib.hid hl
  have hmk := make_room (P := Tryd.prog) 22 5 (.int .u8 0) 1 Tryd.underlying22 infoR rfl
  obtain ⟨i0, hi0, _⟩ := info_parts infoR
  have hcut := cut_to (P := Tryd.prog) 22 5 .i64 Tryd.underlying22 hi0 A l.length c (l.length : Int) (by omega) (by omega) hc
  clear hl
  have h1 : ¬ (65535 : Int) < (l.length : Int) := by omega
  have h2 : (l.length : Int).tdiv 65535 = 0 := by rw [Int.tdiv_eq_ediv_of_nonneg (by omega)]; omega
  have hmk1 := hmk ((l.length : Int) + 5) (l.length + 5) (by omega) (by omega) (by omega)
  have HROOM := Lib.hid (own_room w w.heap.size 5 (.int .u8 0) (l.length + 5) (Nat.le_refl _) (by simp only [maxLen]; omega))
  rw [Int.toNat_natCast] at hcut
  clear hmk
  go_enter Tryd.func36, Tryd.ntmps36
  go_wp2_with fail
  go_loopw [0, 3] (fun v0 v3 wr => v0 = .slice A l.length c ∧ v3 = .slice (some ⟨w.heap.size, 0, none⟩) 0 (l.length + 5) ∧ Hid (Bs 5 wr w.heap.size (.slice (some ⟨w.heap.size, 0, none⟩) 0 (l.length + 5)) []) ∧ Hid (Below w.heap.size w wr)) (fun _ _ _ => 0)
  case atStart => exact ⟨rfl, rfl, HROOM, Lib.hid (below_alloc (Below.refl _ _) _)⟩
  case round =>
    obtain ⟨rfl, rfl, hq, hb⟩ := hrel
    clear hmk1 HROOM h2
    go_wp2_with (first
      | (at_builtin; refine brow_append_row' (w0 := w) w.heap.size rfl (.tmp 22) (.tmp 36) 22 5 rfl Tryd.underlying22 infoR (.slice (some ⟨w.heap.size, 0, none⟩) 0 (l.length + 5)) [] _ (some ⟨wr.heap.size, 0, none⟩) 5 5 rfl rfl (pw_own_below hq.out (below_alloc (Below.refl _ _) _)) (own_reads' (own_lit wr _ 5 .u8 [1, (l.length : Int) % 256, (l.length : Int) / 256, Go.bits .xor .u8 255 ((l.length : Int) % 256), Go.bits .xor .u8 255 ((l.length : Int) / 256)] (Nat.le_refl _) (by simp))) (hb.out.alloc hb.out.size _) (by have := hb.out.size; simp; omega) (by simp) ?_; intro v1 w1 hown1 hb1; have HO1 := Lib.hid hown1; have HB1 := Lib.hid hb1; clear hown1 hb1)
      | (at_builtin; refine brow_append_row' (w0 := w) w.heap.size rfl (.tmp 38) (.tmp 41) 22 5 rfl Tryd.underlying22 infoR v1 _ l A l.length c rfl rfl HO1.out (HL.out.below HB1.out) HB1.out HB1.out.size (by simp; omega) ?_; intro v2 w2 hown2 hb2; have HO2 := Lib.hid hown2; have HB2 := Lib.hid hb2; clear hown2 hb2))
    go_ret
    exact ⟨v2, rfl, HO2.out, HB2.out⟩
def deflate_stored.f (l0 : List Int) : Option (List Int) := if l0.length ≤ 65534 then some (storedB l0) else none
theorem deflate_stored.calls (A0 : Option Addr) (c0 : Nat) (l0 : List Int) (r : List Int) (w : World) (hr0 : Kd.C (Kd.int .u8) w A0 l0.length l0) (hc0 : l0.length ≤ c0) (h : deflate_stored.f l0 = some r) :
    Calls Tryd.prog 36 #[.slice A0 l0.length c0] w fun e w' => ∃ v0_ : Value, e = .returned (v0_) ∧ Kd.R (Kd.int .u8) 5 w' w.heap.size (fun _ => True) v0_ r ∧ Below w.heap.size w w' := by
  unfold deflate_stored.f at h
  split at h
  · rename_i hb
    obtain rfl := Option.some.inj h
    exact (stored_calls w A0 c0 l0 (readsC hr0) hc0 hb).mono fun e w' ⟨v, he, hv, hbl⟩ => ⟨v, he, Bs.toR hv, hbl⟩
  · cases h


-- NOT PRINTED: function 58 (deflate_writer_number)

-- NOT PRINTED: function 71 (deflate_finder_key)

-- NOT PRINTED: function 59 (deflate_finder_match)

/-! ### bits_Reverse16: function 82 -/
def bits_Reverse16.f (a0 : Int) : Option (Int) := if 0 ≤ (a0 / 256) then (if (a0 / 256) < 256 then (if 0 ≤ (Go.bits .and .u16 a0 255) then (if (Go.bits .and .u16 a0 255) < 256 then (some (Go.bits .or .u16 (IntKind.u16.wrap (bt (⟨#[0, 128, 64, 192, 32, 160, 96, 224, 16, 144, 80, 208, 48, 176, 112, 240, 8, 136, 72, 200, 40, 168, 104, 232, 24, 152, 88, 216, 56, 184, 120, 248, 4, 132, 68, 196, 36, 164, 100, 228, 20, 148, 84, 212, 52, 180, 116, 244, 12, 140, 76, 204, 44, 172, 108, 236, 28, 156, 92, 220, 60, 188, 124, 252, 2, 130, 66, 194, 34, 162, 98, 226, 18, 146, 82, 210, 50, 178, 114, 242, 10, 138, 74, 202, 42, 170, 106, 234, 26, 154, 90, 218, 58, 186, 122, 250, 6, 134, 70, 198, 38, 166, 102, 230, 22, 150, 86, 214, 54, 182, 118, 246, 14, 142, 78, 206, 46, 174, 110, 238, 30, 158, 94, 222, 62, 190, 126, 254, 1, 129, 65, 193, 33, 161, 97, 225, 17, 145, 81, 209, 49, 177, 113, 241, 9, 137, 73, 201, 41, 169, 105, 233, 25, 153, 89, 217, 57, 185, 121, 249, 5, 133, 69, 197, 37, 165, 101, 229, 21, 149, 85, 213, 53, 181, 117, 245, 13, 141, 77, 205, 45, 173, 109, 237, 29, 157, 93, 221, 61, 189, 125, 253, 3, 131, 67, 195, 35, 163, 99, 227, 19, 147, 83, 211, 51, 179, 115, 243, 11, 139, 75, 203, 43, 171, 107, 235, 27, 155, 91, 219, 59, 187, 123, 251, 7, 135, 71, 199, 39, 167, 103, 231, 23, 151, 87, 215, 55, 183, 119, 247, 15, 143, 79, 207, 47, 175, 111, 239, 31, 159, 95, 223, 63, 191, 127, 255]⟩ : ByteArray) (a0 / 256))) (IntKind.u16.wrap ((IntKind.u16.wrap (bt (⟨#[0, 128, 64, 192, 32, 160, 96, 224, 16, 144, 80, 208, 48, 176, 112, 240, 8, 136, 72, 200, 40, 168, 104, 232, 24, 152, 88, 216, 56, 184, 120, 248, 4, 132, 68, 196, 36, 164, 100, 228, 20, 148, 84, 212, 52, 180, 116, 244, 12, 140, 76, 204, 44, 172, 108, 236, 28, 156, 92, 220, 60, 188, 124, 252, 2, 130, 66, 194, 34, 162, 98, 226, 18, 146, 82, 210, 50, 178, 114, 242, 10, 138, 74, 202, 42, 170, 106, 234, 26, 154, 90, 218, 58, 186, 122, 250, 6, 134, 70, 198, 38, 166, 102, 230, 22, 150, 86, 214, 54, 182, 118, 246, 14, 142, 78, 206, 46, 174, 110, 238, 30, 158, 94, 222, 62, 190, 126, 254, 1, 129, 65, 193, 33, 161, 97, 225, 17, 145, 81, 209, 49, 177, 113, 241, 9, 137, 73, 201, 41, 169, 105, 233, 25, 153, 89, 217, 57, 185, 121, 249, 5, 133, 69, 197, 37, 165, 101, 229, 21, 149, 85, 213, 53, 181, 117, 245, 13, 141, 77, 205, 45, 173, 109, 237, 29, 157, 93, 221, 61, 189, 125, 253, 3, 131, 67, 195, 35, 163, 99, 227, 19, 147, 83, 211, 51, 179, 115, 243, 11, 139, 75, 203, 43, 171, 107, 235, 27, 155, 91, 219, 59, 187, 123, 251, 7, 135, 71, 199, 39, 167, 103, 231, 23, 151, 87, 215, 55, 183, 119, 247, 15, 143, 79, 207, 47, 175, 111, 239, 31, 159, 95, 223, 63, 191, 127, 255]⟩ : ByteArray) (Go.bits .and .u16 a0 255))) * 256)))) else (none)) else (none)) else (none)) else (none)
set_option maxHeartbeats 8000000 in
set_option maxRecDepth 100000 in
theorem bits_Reverse16.calls (a0 : Int) (r : Int) (w : World) (h : bits_Reverse16.f a0 = some r) :
    Calls Tryd.prog 82 #[.int .u16 a0] w fun e w' => e = .returned (.int .u16 r) ∧ Drawn0 w w' := by
  have H : (if 0 ≤ (a0 / 256) then (if (a0 / 256) < 256 then (if 0 ≤ (Go.bits .and .u16 a0 255) then (if (Go.bits .and .u16 a0 255) < 256 then (some (Go.bits .or .u16 (IntKind.u16.wrap (bt (⟨#[0, 128, 64, 192, 32, 160, 96, 224, 16, 144, 80, 208, 48, 176, 112, 240, 8, 136, 72, 200, 40, 168, 104, 232, 24, 152, 88, 216, 56, 184, 120, 248, 4, 132, 68, 196, 36, 164, 100, 228, 20, 148, 84, 212, 52, 180, 116, 244, 12, 140, 76, 204, 44, 172, 108, 236, 28, 156, 92, 220, 60, 188, 124, 252, 2, 130, 66, 194, 34, 162, 98, 226, 18, 146, 82, 210, 50, 178, 114, 242, 10, 138, 74, 202, 42, 170, 106, 234, 26, 154, 90, 218, 58, 186, 122, 250, 6, 134, 70, 198, 38, 166, 102, 230, 22, 150, 86, 214, 54, 182, 118, 246, 14, 142, 78, 206, 46, 174, 110, 238, 30, 158, 94, 222, 62, 190, 126, 254, 1, 129, 65, 193, 33, 161, 97, 225, 17, 145, 81, 209, 49, 177, 113, 241, 9, 137, 73, 201, 41, 169, 105, 233, 25, 153, 89, 217, 57, 185, 121, 249, 5, 133, 69, 197, 37, 165, 101, 229, 21, 149, 85, 213, 53, 181, 117, 245, 13, 141, 77, 205, 45, 173, 109, 237, 29, 157, 93, 221, 61, 189, 125, 253, 3, 131, 67, 195, 35, 163, 99, 227, 19, 147, 83, 211, 51, 179, 115, 243, 11, 139, 75, 203, 43, 171, 107, 235, 27, 155, 91, 219, 59, 187, 123, 251, 7, 135, 71, 199, 39, 167, 103, 231, 23, 151, 87, 215, 55, 183, 119, 247, 15, 143, 79, 207, 47, 175, 111, 239, 31, 159, 95, 223, 63, 191, 127, 255]⟩ : ByteArray) (a0 / 256))) (IntKind.u16.wrap ((IntKind.u16.wrap (bt (⟨#[0, 128, 64, 192, 32, 160, 96, 224, 16, 144, 80, 208, 48, 176, 112, 240, 8, 136, 72, 200, 40, 168, 104, 232, 24, 152, 88, 216, 56, 184, 120, 248, 4, 132, 68, 196, 36, 164, 100, 228, 20, 148, 84, 212, 52, 180, 116, 244, 12, 140, 76, 204, 44, 172, 108, 236, 28, 156, 92, 220, 60, 188, 124, 252, 2, 130, 66, 194, 34, 162, 98, 226, 18, 146, 82, 210, 50, 178, 114, 242, 10, 138, 74, 202, 42, 170, 106, 234, 26, 154, 90, 218, 58, 186, 122, 250, 6, 134, 70, 198, 38, 166, 102, 230, 22, 150, 86, 214, 54, 182, 118, 246, 14, 142, 78, 206, 46, 174, 110, 238, 30, 158, 94, 222, 62, 190, 126, 254, 1, 129, 65, 193, 33, 161, 97, 225, 17, 145, 81, 209, 49, 177, 113, 241, 9, 137, 73, 201, 41, 169, 105, 233, 25, 153, 89, 217, 57, 185, 121, 249, 5, 133, 69, 197, 37, 165, 101, 229, 21, 149, 85, 213, 53, 181, 117, 245, 13, 141, 77, 205, 45, 173, 109, 237, 29, 157, 93, 221, 61, 189, 125, 253, 3, 131, 67, 195, 35, 163, 99, 227, 19, 147, 83, 211, 51, 179, 115, 243, 11, 139, 75, 203, 43, 171, 107, 235, 27, 155, 91, 219, 59, 187, 123, 251, 7, 135, 71, 199, 39, 167, 103, 231, 23, 151, 87, 215, 55, 183, 119, 247, 15, 143, 79, 207, 47, 175, 111, 239, 31, 159, 95, 223, 63, 191, 127, 255]⟩ : ByteArray) (Go.bits .and .u16 a0 255))) * 256)))) else (none)) else (none)) else (none)) else (none)) = some r := h
  clear h
  obtain ⟨ji2, hji2⟩ : ∃ j_ : Int, (a0 / 256) = j_ := ⟨_, rfl⟩
  replace H : (if 0 ≤ (ji2) then (if (ji2) < 256 then (if 0 ≤ (Go.bits .and .u16 a0 255) then (if (Go.bits .and .u16 a0 255) < 256 then (some (Go.bits .or .u16 (IntKind.u16.wrap (bt (⟨#[0, 128, 64, 192, 32, 160, 96, 224, 16, 144, 80, 208, 48, 176, 112, 240, 8, 136, 72, 200, 40, 168, 104, 232, 24, 152, 88, 216, 56, 184, 120, 248, 4, 132, 68, 196, 36, 164, 100, 228, 20, 148, 84, 212, 52, 180, 116, 244, 12, 140, 76, 204, 44, 172, 108, 236, 28, 156, 92, 220, 60, 188, 124, 252, 2, 130, 66, 194, 34, 162, 98, 226, 18, 146, 82, 210, 50, 178, 114, 242, 10, 138, 74, 202, 42, 170, 106, 234, 26, 154, 90, 218, 58, 186, 122, 250, 6, 134, 70, 198, 38, 166, 102, 230, 22, 150, 86, 214, 54, 182, 118, 246, 14, 142, 78, 206, 46, 174, 110, 238, 30, 158, 94, 222, 62, 190, 126, 254, 1, 129, 65, 193, 33, 161, 97, 225, 17, 145, 81, 209, 49, 177, 113, 241, 9, 137, 73, 201, 41, 169, 105, 233, 25, 153, 89, 217, 57, 185, 121, 249, 5, 133, 69, 197, 37, 165, 101, 229, 21, 149, 85, 213, 53, 181, 117, 245, 13, 141, 77, 205, 45, 173, 109, 237, 29, 157, 93, 221, 61, 189, 125, 253, 3, 131, 67, 195, 35, 163, 99, 227, 19, 147, 83, 211, 51, 179, 115, 243, 11, 139, 75, 203, 43, 171, 107, 235, 27, 155, 91, 219, 59, 187, 123, 251, 7, 135, 71, 199, 39, 167, 103, 231, 23, 151, 87, 215, 55, 183, 119, 247, 15, 143, 79, 207, 47, 175, 111, 239, 31, 159, 95, 223, 63, 191, 127, 255]⟩ : ByteArray) (ji2))) (IntKind.u16.wrap ((IntKind.u16.wrap (bt (⟨#[0, 128, 64, 192, 32, 160, 96, 224, 16, 144, 80, 208, 48, 176, 112, 240, 8, 136, 72, 200, 40, 168, 104, 232, 24, 152, 88, 216, 56, 184, 120, 248, 4, 132, 68, 196, 36, 164, 100, 228, 20, 148, 84, 212, 52, 180, 116, 244, 12, 140, 76, 204, 44, 172, 108, 236, 28, 156, 92, 220, 60, 188, 124, 252, 2, 130, 66, 194, 34, 162, 98, 226, 18, 146, 82, 210, 50, 178, 114, 242, 10, 138, 74, 202, 42, 170, 106, 234, 26, 154, 90, 218, 58, 186, 122, 250, 6, 134, 70, 198, 38, 166, 102, 230, 22, 150, 86, 214, 54, 182, 118, 246, 14, 142, 78, 206, 46, 174, 110, 238, 30, 158, 94, 222, 62, 190, 126, 254, 1, 129, 65, 193, 33, 161, 97, 225, 17, 145, 81, 209, 49, 177, 113, 241, 9, 137, 73, 201, 41, 169, 105, 233, 25, 153, 89, 217, 57, 185, 121, 249, 5, 133, 69, 197, 37, 165, 101, 229, 21, 149, 85, 213, 53, 181, 117, 245, 13, 141, 77, 205, 45, 173, 109, 237, 29, 157, 93, 221, 61, 189, 125, 253, 3, 131, 67, 195, 35, 163, 99, 227, 19, 147, 83, 211, 51, 179, 115, 243, 11, 139, 75, 203, 43, 171, 107, 235, 27, 155, 91, 219, 59, 187, 123, 251, 7, 135, 71, 199, 39, 167, 103, 231, 23, 151, 87, 215, 55, 183, 119, 247, 15, 143, 79, 207, 47, 175, 111, 239, 31, 159, 95, 223, 63, 191, 127, 255]⟩ : ByteArray) (Go.bits .and .u16 a0 255))) * 256)))) else (none)) else (none)) else (none)) else (none)) = some r := by first | (rw [hji2] at H; exact H) | (simp only [hji2] at H ⊢; exact H)
  by_cases c3 : 0 ≤ (ji2)
  · rw [if_pos c3] at H
    have c3b0 : decide (0 ≤ (ji2)) = true := decide_eq_true c3
    clear c3
    by_cases c4 : (ji2) < 256
    · rw [if_pos c4] at H
      have c4b0 : decide ((ji2) < 256) = true := decide_eq_true c4
      clear c4
      by_cases c6 : 0 ≤ (Go.bits .and .u16 a0 255)
      · rw [if_pos c6] at H
        have c6b0 : decide (0 ≤ (Go.bits .and .u16 a0 255)) = true := decide_eq_true c6
        clear c6
        by_cases c7 : (Go.bits .and .u16 a0 255) < 256
        · rw [if_pos c7] at H
          have c7b0 : decide ((Go.bits .and .u16 a0 255) < 256) = true := decide_eq_true c7
          clear c7
          obtain rfl := Option.some.inj H
          have p5 : 0 ≤ ((ji2) : Int) := of_decide_eq_true (by first | (with_reducible assumption) | assumption)
          have q5 : (ji2) < (256 : Int) := of_decide_eq_true (by first | (with_reducible assumption) | assumption)
          have hx5 := bt_at (⟨#[0, 128, 64, 192, 32, 160, 96, 224, 16, 144, 80, 208, 48, 176, 112, 240, 8, 136, 72, 200, 40, 168, 104, 232, 24, 152, 88, 216, 56, 184, 120, 248, 4, 132, 68, 196, 36, 164, 100, 228, 20, 148, 84, 212, 52, 180, 116, 244, 12, 140, 76, 204, 44, 172, 108, 236, 28, 156, 92, 220, 60, 188, 124, 252, 2, 130, 66, 194, 34, 162, 98, 226, 18, 146, 82, 210, 50, 178, 114, 242, 10, 138, 74, 202, 42, 170, 106, 234, 26, 154, 90, 218, 58, 186, 122, 250, 6, 134, 70, 198, 38, 166, 102, 230, 22, 150, 86, 214, 54, 182, 118, 246, 14, 142, 78, 206, 46, 174, 110, 238, 30, 158, 94, 222, 62, 190, 126, 254, 1, 129, 65, 193, 33, 161, 97, 225, 17, 145, 81, 209, 49, 177, 113, 241, 9, 137, 73, 201, 41, 169, 105, 233, 25, 153, 89, 217, 57, 185, 121, 249, 5, 133, 69, 197, 37, 165, 101, 229, 21, 149, 85, 213, 53, 181, 117, 245, 13, 141, 77, 205, 45, 173, 109, 237, 29, 157, 93, 221, 61, 189, 125, 253, 3, 131, 67, 195, 35, 163, 99, 227, 19, 147, 83, 211, 51, 179, 115, 243, 11, 139, 75, 203, 43, 171, 107, 235, 27, 155, 91, 219, 59, 187, 123, 251, 7, 135, 71, 199, 39, 167, 103, 231, 23, 151, 87, 215, 55, 183, 119, 247, 15, 143, 79, 207, 47, 175, 111, 239, 31, 159, 95, 223, 63, 191, 127, 255]⟩ : ByteArray) (ji2)
          replace p5 := eq_true p5
          replace q5 := eq_true q5
          have p8 : 0 ≤ ((Go.bits .and .u16 a0 255) : Int) := of_decide_eq_true (by first | (with_reducible assumption) | assumption)
          have q8 : (Go.bits .and .u16 a0 255) < (256 : Int) := of_decide_eq_true (by first | (with_reducible assumption) | assumption)
          have hx8 := bt_at (⟨#[0, 128, 64, 192, 32, 160, 96, 224, 16, 144, 80, 208, 48, 176, 112, 240, 8, 136, 72, 200, 40, 168, 104, 232, 24, 152, 88, 216, 56, 184, 120, 248, 4, 132, 68, 196, 36, 164, 100, 228, 20, 148, 84, 212, 52, 180, 116, 244, 12, 140, 76, 204, 44, 172, 108, 236, 28, 156, 92, 220, 60, 188, 124, 252, 2, 130, 66, 194, 34, 162, 98, 226, 18, 146, 82, 210, 50, 178, 114, 242, 10, 138, 74, 202, 42, 170, 106, 234, 26, 154, 90, 218, 58, 186, 122, 250, 6, 134, 70, 198, 38, 166, 102, 230, 22, 150, 86, 214, 54, 182, 118, 246, 14, 142, 78, 206, 46, 174, 110, 238, 30, 158, 94, 222, 62, 190, 126, 254, 1, 129, 65, 193, 33, 161, 97, 225, 17, 145, 81, 209, 49, 177, 113, 241, 9, 137, 73, 201, 41, 169, 105, 233, 25, 153, 89, 217, 57, 185, 121, 249, 5, 133, 69, 197, 37, 165, 101, 229, 21, 149, 85, 213, 53, 181, 117, 245, 13, 141, 77, 205, 45, 173, 109, 237, 29, 157, 93, 221, 61, 189, 125, 253, 3, 131, 67, 195, 35, 163, 99, 227, 19, 147, 83, 211, 51, 179, 115, 243, 11, 139, 75, 203, 43, 171, 107, 235, 27, 155, 91, 219, 59, 187, 123, 251, 7, 135, 71, 199, 39, 167, 103, 231, 23, 151, 87, 215, 55, 183, 119, 247, 15, 143, 79, 207, 47, 175, 111, 239, 31, 159, 95, 223, 63, 191, 127, 255]⟩ : ByteArray) (Go.bits .and .u16 a0 255)
          replace p8 := eq_true p8
          replace q8 := eq_true q8
          go_enter Tryd.func82, Tryd.ntmps82
          go_wp2
          repeat (go_quiet (fail); try go_wp2)
          go_ret
          exact ⟨by first | rfl | (simp; done) | (simp only [← hji2] <;> (first | rfl | simp)) | (simp [*]; done), by repeat (first | exact Drawn0.refl _ | apply Drawn0.step)⟩
        · rw [if_neg c7] at H
          exact absurd H (by simp)
      · rw [if_neg c6] at H
        exact absurd H (by simp)
    · rw [if_neg c4] at H
      exact absurd H (by simp)
  · rw [if_neg c3] at H
    exact absurd H (by simp)

/-! ### deflate_writer_code: function 72 -/
theorem rev16 : ∀ v : Fin 512, bits_Reverse16.f (v.val : Int) = some ((rev 16 v.val : Nat) : Int) := by decide +kernel
theorem rev_cut : (∀ v : Fin 32, rev 16 v.val / 2048 = rev 5 v.val) ∧ (∀ v : Fin 128, rev 16 v.val / 512 = rev 7 v.val) ∧ (∀ v : Fin 256, rev 16 v.val / 256 = rev 8 v.val) ∧ (∀ v : Fin 512, rev 16 v.val / 128 = rev 9 v.val) := by decide +kernel
/-- What a call that writes bits does. -/
def Puts (base g : Nat) (W : World) (T N x n : Nat) (e : Ending) (w' : World) : Prop := e = .returned (.tuple #[]) ∧ SF g W w' ∧ Wr base g w' (T + x * 2 ^ N) (N + n)
theorem Puts.mk' {base g : Nat} {W W1 w' : World} {T N x n x2 n2 : Nat} {e e' : Ending} (h : Puts base g W T N x n e W1) (h2 : Puts base g W1 (T + x * 2 ^ N) (N + n) x2 n2 e' w') : Puts base g W T N (x + x2 * 2 ^ n) (n + n2) e' w' := by
  refine ⟨h2.1, h.2.1.trans h2.2.1, ?_⟩
  have h3 := h2.2.2
  rw [show T + (x + x2 * 2 ^ n) * 2 ^ N = T + x * 2 ^ N + x2 * 2 ^ (N + n) from by rw [Nat.add_mul, Nat.mul_assoc, ← Nat.pow_add, Nat.add_comm n N, Nat.add_assoc], show N + (n + n2) = N + n + n2 from by omega]
  exact h3
theorem Puts.out {base g : Nat} {W w' : World} {T N x n : Nat} {e : Ending} (h : Puts base g W T N x n e w') : e = .returned (.tuple #[]) := h.1
set_option maxRecDepth 8000 in
set_option maxHeartbeats 1000000 in
theorem code_calls (base g : Nat) (W : World) (T N v n : Nat) (hw : Wr base g W T N) (hv : v < 2 ^ n) (hn : n = 5 ∨ n = 7 ∨ n = 8 ∨ n = 9) (hN : N + n ≤ 1000000000000000) :
    Calls Tryd.prog 72 #[.pointer (some ⟨g, 0, none⟩), .int .i64 v, .int .i64 n] W fun e w' => Puts base g W T N (rev n v) n e w' := by
  have hv9 : v < 512 := Nat.lt_of_lt_of_le hv (by rcases hn with rfl | rfl | rfl | rfl <;> decide)
  have hr := rev16 ⟨v, hv9⟩
  have hlt := rev_lt 16 v
  have hW := Lib.hid hw
  have hu : IntKind.u16.wrap (v : Int) = v := by rw [IntKind.wrap_u16]; omega
  have hcut : ∀ m : Nat, n = m → rev 16 v / 2 ^ (16 - m) = rev m v := by
    rintro m rfl
    rcases hn with rfl | rfl | rfl | rfl
    · exact rev_cut.1 ⟨v, hv⟩
    · exact rev_cut.2.1 ⟨v, hv⟩
    · exact rev_cut.2.2.1 ⟨v, hv⟩
    · exact rev_cut.2.2.2 ⟨v, hv⟩
  have hc := hcut n rfl
  have HC := Lib.hid hc
  have HR := Lib.hid hr
  have HU := Lib.hid hu
  clear hc hcut hr hw hu
  rcases hn with rfl | rfl | rfl | rfl
  all_goals
    go_enter Tryd.func72, Tryd.ntmps72
    go_wp2_with fail
    refine (bits_Reverse16.calls _ _ W HR.out).mono ?_
    rintro e w1 ⟨rfl, hd⟩
    obtain ⟨m1, rfl⟩ := hd.out
    first
      | have hq : ((rev 16 v : Nat) : Int) / 2048 = ((rev 5 v : Nat) : Int) := by have h9 : rev 16 v / 2048 = rev 5 v := HC.out; omega
      | have hq : ((rev 16 v : Nat) : Int) / 512 = ((rev 7 v : Nat) : Int) := by have h9 : rev 16 v / 512 = rev 7 v := HC.out; omega
      | have hq : ((rev 16 v : Nat) : Int) / 256 = ((rev 8 v : Nat) : Int) := by have h9 : rev 16 v / 256 = rev 8 v := HC.out; omega
      | have hq : ((rev 16 v : Nat) : Int) / 128 = ((rev 9 v : Nat) : Int) := by have h9 : rev 16 v / 128 = rev 9 v := HC.out; omega
    go_wp2_with fail
    try rw [hq]
    refine (number_calls base g (W.drewN m1) T N _ _ (hW.out.drewN m1) (rev_lt _ v) (by omega) hN).mono ?_
    rintro e w2 ⟨rfl, h2, h3⟩
    go_wp2_with fail
    refine bodyPost_end (results_none rfl _ _ _) rfl ?_
    exact ⟨rfl, (SF.refl g W).drewN m1 |>.trans h2, h3⟩


/-! ### deflate_writer_symbol: function 60 -/
/-- A symbol's bits: their number's value, and how many. -/
def symV (s : Nat) : Nat := if s < 144 then rev 8 (s + 48) else if s < 256 then rev 9 (s + 256) else if s < 280 then rev 7 (s - 256) else rev 8 (s - 88)
def symN (s : Nat) : Nat := if s < 144 then 8 else if s < 256 then 9 else if s < 280 then 7 else 8
set_option maxRecDepth 8000 in
set_option maxHeartbeats 1000000 in
theorem symbol_calls (base g : Nat) (W : World) (T N s : Nat) (hw : Wr base g W T N) (hs : s ≤ 287) (hN : N + 9 ≤ 1000000000000000) :
    Calls Tryd.prog 60 #[.pointer (some ⟨g, 0, none⟩), .int .i64 s] W fun e w' => Puts base g W T N (symV s) (symN s) e w' := by
  have hW := Lib.hid hw
  clear hw
  by_cases h1 : s < 144
  · have hV : symV s = rev 8 (s + 48) := by unfold symV; rw [if_pos h1]
    have hM : symN s = 8 := by unfold symN; rw [if_pos h1]
    rw [hV, hM]
    have i1 : (s : Int) < 144 := by omega
    go_enter Tryd.func60, Tryd.ntmps60
    go_wp2_with fail
    refine (code_calls base g W T N (s + 48) 8 hW.out (by omega) (by omega) (by omega)).mono ?_
    rintro e w2 ⟨rfl, h2, h3⟩
    go_wp2_with fail
    exact bodyPost_end (results_none rfl _ _ _) rfl ⟨rfl, h2, h3⟩
  · have i1 : ¬ (s : Int) < 144 := by omega
    by_cases h2 : s < 256
    · have hV : symV s = rev 9 (s + 256) := by unfold symV; rw [if_neg h1, if_pos h2]
      have hM : symN s = 9 := by unfold symN; rw [if_neg h1, if_pos h2]
      rw [hV, hM]
      have i2 : (s : Int) < 256 := by omega
      go_enter Tryd.func60, Tryd.ntmps60
      go_wp2_with fail
      refine (code_calls base g W T N (s + 256) 9 hW.out (by omega) (by omega) (by omega)).mono ?_
      rintro e w2 ⟨rfl, h2, h3⟩
      go_wp2_with fail
      exact bodyPost_end (results_none rfl _ _ _) rfl ⟨rfl, h2, h3⟩
    · have i2 : ¬ (s : Int) < 256 := by omega
      by_cases h3 : s < 280
      · have hV : symV s = rev 7 (s - 256) := by unfold symV; rw [if_neg h1, if_neg h2, if_pos h3]
        have hM : symN s = 7 := by unfold symN; rw [if_neg h1, if_neg h2, if_pos h3]
        rw [hV, hM]
        have i3 : (s : Int) < 280 := by omega
        have e3 : (s : Int) - 256 = ((s - 256 : Nat) : Int) := by omega
        go_enter Tryd.func60, Tryd.ntmps60
        go_wp2_with fail
        try rw [e3]
        refine (code_calls base g W T N (s - 256) 7 hW.out (by omega) (by omega) (by omega)).mono ?_
        rintro e w2 ⟨rfl, h2, h3⟩
        go_wp2_with fail
        exact bodyPost_end (results_none rfl _ _ _) rfl ⟨rfl, h2, h3⟩
      · have hV : symV s = rev 8 (s - 88) := by unfold symV; rw [if_neg h1, if_neg h2, if_neg h3]
        have hM : symN s = 8 := by unfold symN; rw [if_neg h1, if_neg h2, if_neg h3]
        rw [hV, hM]
        have i3 : ¬ (s : Int) < 280 := by omega
        have e3 : (s : Int) - 88 = ((s - 88 : Nat) : Int) := by omega
        go_enter Tryd.func60, Tryd.ntmps60
        go_wp2_with fail
        try rw [e3]
        refine (code_calls base g W T N (s - 88) 8 hW.out (by omega) (by omega) (by omega)).mono ?_
        rintro e w2 ⟨rfl, h2, h3⟩
        go_wp2_with fail
        exact bodyPost_end (results_none rfl _ _ _) rfl ⟨rfl, h2, h3⟩


/-! ### bits_Len32: function 83 -/
def bits_Len32.f (a0 : Int) : Option (Int) := if a0 ≥ 65536 then (if (a0 / 65536) ≥ 256 then (if 0 ≤ (((a0 / 65536) / 256) % 256) then (if (((a0 / 65536) / 256) % 256) < 256 then (some (wrap64 ((16 + 8) + (wrap64 (bt (⟨#[0, 1, 2, 2, 3, 3, 3, 3, 4, 4, 4, 4, 4, 4, 4, 4, 5, 5, 5, 5, 5, 5, 5, 5, 5, 5, 5, 5, 5, 5, 5, 5, 6, 6, 6, 6, 6, 6, 6, 6, 6, 6, 6, 6, 6, 6, 6, 6, 6, 6, 6, 6, 6, 6, 6, 6, 6, 6, 6, 6, 6, 6, 6, 6, 7, 7, 7, 7, 7, 7, 7, 7, 7, 7, 7, 7, 7, 7, 7, 7, 7, 7, 7, 7, 7, 7, 7, 7, 7, 7, 7, 7, 7, 7, 7, 7, 7, 7, 7, 7, 7, 7, 7, 7, 7, 7, 7, 7, 7, 7, 7, 7, 7, 7, 7, 7, 7, 7, 7, 7, 7, 7, 7, 7, 7, 7, 7, 7, 8, 8, 8, 8, 8, 8, 8, 8, 8, 8, 8, 8, 8, 8, 8, 8, 8, 8, 8, 8, 8, 8, 8, 8, 8, 8, 8, 8, 8, 8, 8, 8, 8, 8, 8, 8, 8, 8, 8, 8, 8, 8, 8, 8, 8, 8, 8, 8, 8, 8, 8, 8, 8, 8, 8, 8, 8, 8, 8, 8, 8, 8, 8, 8, 8, 8, 8, 8, 8, 8, 8, 8, 8, 8, 8, 8, 8, 8, 8, 8, 8, 8, 8, 8, 8, 8, 8, 8, 8, 8, 8, 8, 8, 8, 8, 8, 8, 8, 8, 8, 8, 8, 8, 8, 8, 8, 8, 8, 8, 8, 8, 8, 8, 8, 8, 8, 8, 8, 8, 8, 8, 8, 8, 8, 8, 8, 8, 8]⟩ : ByteArray) (((a0 / 65536) / 256) % 256)))))) else (none)) else (none)) else (if 0 ≤ ((a0 / 65536) % 256) then (if ((a0 / 65536) % 256) < 256 then (some (wrap64 (16 + (wrap64 (bt (⟨#[0, 1, 2, 2, 3, 3, 3, 3, 4, 4, 4, 4, 4, 4, 4, 4, 5, 5, 5, 5, 5, 5, 5, 5, 5, 5, 5, 5, 5, 5, 5, 5, 6, 6, 6, 6, 6, 6, 6, 6, 6, 6, 6, 6, 6, 6, 6, 6, 6, 6, 6, 6, 6, 6, 6, 6, 6, 6, 6, 6, 6, 6, 6, 6, 7, 7, 7, 7, 7, 7, 7, 7, 7, 7, 7, 7, 7, 7, 7, 7, 7, 7, 7, 7, 7, 7, 7, 7, 7, 7, 7, 7, 7, 7, 7, 7, 7, 7, 7, 7, 7, 7, 7, 7, 7, 7, 7, 7, 7, 7, 7, 7, 7, 7, 7, 7, 7, 7, 7, 7, 7, 7, 7, 7, 7, 7, 7, 7, 8, 8, 8, 8, 8, 8, 8, 8, 8, 8, 8, 8, 8, 8, 8, 8, 8, 8, 8, 8, 8, 8, 8, 8, 8, 8, 8, 8, 8, 8, 8, 8, 8, 8, 8, 8, 8, 8, 8, 8, 8, 8, 8, 8, 8, 8, 8, 8, 8, 8, 8, 8, 8, 8, 8, 8, 8, 8, 8, 8, 8, 8, 8, 8, 8, 8, 8, 8, 8, 8, 8, 8, 8, 8, 8, 8, 8, 8, 8, 8, 8, 8, 8, 8, 8, 8, 8, 8, 8, 8, 8, 8, 8, 8, 8, 8, 8, 8, 8, 8, 8, 8, 8, 8, 8, 8, 8, 8, 8, 8, 8, 8, 8, 8, 8, 8, 8, 8, 8, 8, 8, 8, 8, 8, 8, 8, 8, 8]⟩ : ByteArray) ((a0 / 65536) % 256)))))) else (none)) else (none))) else (if a0 ≥ 256 then (if 0 ≤ ((a0 / 256) % 256) then (if ((a0 / 256) % 256) < 256 then (some (wrap64 ((0 + 8) + (wrap64 (bt (⟨#[0, 1, 2, 2, 3, 3, 3, 3, 4, 4, 4, 4, 4, 4, 4, 4, 5, 5, 5, 5, 5, 5, 5, 5, 5, 5, 5, 5, 5, 5, 5, 5, 6, 6, 6, 6, 6, 6, 6, 6, 6, 6, 6, 6, 6, 6, 6, 6, 6, 6, 6, 6, 6, 6, 6, 6, 6, 6, 6, 6, 6, 6, 6, 6, 7, 7, 7, 7, 7, 7, 7, 7, 7, 7, 7, 7, 7, 7, 7, 7, 7, 7, 7, 7, 7, 7, 7, 7, 7, 7, 7, 7, 7, 7, 7, 7, 7, 7, 7, 7, 7, 7, 7, 7, 7, 7, 7, 7, 7, 7, 7, 7, 7, 7, 7, 7, 7, 7, 7, 7, 7, 7, 7, 7, 7, 7, 7, 7, 8, 8, 8, 8, 8, 8, 8, 8, 8, 8, 8, 8, 8, 8, 8, 8, 8, 8, 8, 8, 8, 8, 8, 8, 8, 8, 8, 8, 8, 8, 8, 8, 8, 8, 8, 8, 8, 8, 8, 8, 8, 8, 8, 8, 8, 8, 8, 8, 8, 8, 8, 8, 8, 8, 8, 8, 8, 8, 8, 8, 8, 8, 8, 8, 8, 8, 8, 8, 8, 8, 8, 8, 8, 8, 8, 8, 8, 8, 8, 8, 8, 8, 8, 8, 8, 8, 8, 8, 8, 8, 8, 8, 8, 8, 8, 8, 8, 8, 8, 8, 8, 8, 8, 8, 8, 8, 8, 8, 8, 8, 8, 8, 8, 8, 8, 8, 8, 8, 8, 8, 8, 8, 8, 8, 8, 8, 8, 8]⟩ : ByteArray) ((a0 / 256) % 256)))))) else (none)) else (none)) else (if 0 ≤ ((a0) % 256) then (if ((a0) % 256) < 256 then (some (wrap64 (0 + (wrap64 (bt (⟨#[0, 1, 2, 2, 3, 3, 3, 3, 4, 4, 4, 4, 4, 4, 4, 4, 5, 5, 5, 5, 5, 5, 5, 5, 5, 5, 5, 5, 5, 5, 5, 5, 6, 6, 6, 6, 6, 6, 6, 6, 6, 6, 6, 6, 6, 6, 6, 6, 6, 6, 6, 6, 6, 6, 6, 6, 6, 6, 6, 6, 6, 6, 6, 6, 7, 7, 7, 7, 7, 7, 7, 7, 7, 7, 7, 7, 7, 7, 7, 7, 7, 7, 7, 7, 7, 7, 7, 7, 7, 7, 7, 7, 7, 7, 7, 7, 7, 7, 7, 7, 7, 7, 7, 7, 7, 7, 7, 7, 7, 7, 7, 7, 7, 7, 7, 7, 7, 7, 7, 7, 7, 7, 7, 7, 7, 7, 7, 7, 8, 8, 8, 8, 8, 8, 8, 8, 8, 8, 8, 8, 8, 8, 8, 8, 8, 8, 8, 8, 8, 8, 8, 8, 8, 8, 8, 8, 8, 8, 8, 8, 8, 8, 8, 8, 8, 8, 8, 8, 8, 8, 8, 8, 8, 8, 8, 8, 8, 8, 8, 8, 8, 8, 8, 8, 8, 8, 8, 8, 8, 8, 8, 8, 8, 8, 8, 8, 8, 8, 8, 8, 8, 8, 8, 8, 8, 8, 8, 8, 8, 8, 8, 8, 8, 8, 8, 8, 8, 8, 8, 8, 8, 8, 8, 8, 8, 8, 8, 8, 8, 8, 8, 8, 8, 8, 8, 8, 8, 8, 8, 8, 8, 8, 8, 8, 8, 8, 8, 8, 8, 8, 8, 8, 8, 8, 8, 8]⟩ : ByteArray) ((a0) % 256)))))) else (none)) else (none)))
set_option maxHeartbeats 8000000 in
set_option maxRecDepth 100000 in
theorem bits_Len32.calls (a0 : Int) (r : Int) (w : World) (h : bits_Len32.f a0 = some r) :
    Calls Tryd.prog 83 #[.int .u32 a0] w fun e w' => e = .returned (.int .i64 r) ∧ Drawn0 w w' := by
  have H : (if a0 ≥ 65536 then (if (a0 / 65536) ≥ 256 then (if 0 ≤ (((a0 / 65536) / 256) % 256) then (if (((a0 / 65536) / 256) % 256) < 256 then (some (wrap64 ((16 + 8) + (wrap64 (bt (⟨#[0, 1, 2, 2, 3, 3, 3, 3, 4, 4, 4, 4, 4, 4, 4, 4, 5, 5, 5, 5, 5, 5, 5, 5, 5, 5, 5, 5, 5, 5, 5, 5, 6, 6, 6, 6, 6, 6, 6, 6, 6, 6, 6, 6, 6, 6, 6, 6, 6, 6, 6, 6, 6, 6, 6, 6, 6, 6, 6, 6, 6, 6, 6, 6, 7, 7, 7, 7, 7, 7, 7, 7, 7, 7, 7, 7, 7, 7, 7, 7, 7, 7, 7, 7, 7, 7, 7, 7, 7, 7, 7, 7, 7, 7, 7, 7, 7, 7, 7, 7, 7, 7, 7, 7, 7, 7, 7, 7, 7, 7, 7, 7, 7, 7, 7, 7, 7, 7, 7, 7, 7, 7, 7, 7, 7, 7, 7, 7, 8, 8, 8, 8, 8, 8, 8, 8, 8, 8, 8, 8, 8, 8, 8, 8, 8, 8, 8, 8, 8, 8, 8, 8, 8, 8, 8, 8, 8, 8, 8, 8, 8, 8, 8, 8, 8, 8, 8, 8, 8, 8, 8, 8, 8, 8, 8, 8, 8, 8, 8, 8, 8, 8, 8, 8, 8, 8, 8, 8, 8, 8, 8, 8, 8, 8, 8, 8, 8, 8, 8, 8, 8, 8, 8, 8, 8, 8, 8, 8, 8, 8, 8, 8, 8, 8, 8, 8, 8, 8, 8, 8, 8, 8, 8, 8, 8, 8, 8, 8, 8, 8, 8, 8, 8, 8, 8, 8, 8, 8, 8, 8, 8, 8, 8, 8, 8, 8, 8, 8, 8, 8, 8, 8, 8, 8, 8, 8]⟩ : ByteArray) (((a0 / 65536) / 256) % 256)))))) else (none)) else (none)) else (if 0 ≤ ((a0 / 65536) % 256) then (if ((a0 / 65536) % 256) < 256 then (some (wrap64 (16 + (wrap64 (bt (⟨#[0, 1, 2, 2, 3, 3, 3, 3, 4, 4, 4, 4, 4, 4, 4, 4, 5, 5, 5, 5, 5, 5, 5, 5, 5, 5, 5, 5, 5, 5, 5, 5, 6, 6, 6, 6, 6, 6, 6, 6, 6, 6, 6, 6, 6, 6, 6, 6, 6, 6, 6, 6, 6, 6, 6, 6, 6, 6, 6, 6, 6, 6, 6, 6, 7, 7, 7, 7, 7, 7, 7, 7, 7, 7, 7, 7, 7, 7, 7, 7, 7, 7, 7, 7, 7, 7, 7, 7, 7, 7, 7, 7, 7, 7, 7, 7, 7, 7, 7, 7, 7, 7, 7, 7, 7, 7, 7, 7, 7, 7, 7, 7, 7, 7, 7, 7, 7, 7, 7, 7, 7, 7, 7, 7, 7, 7, 7, 7, 8, 8, 8, 8, 8, 8, 8, 8, 8, 8, 8, 8, 8, 8, 8, 8, 8, 8, 8, 8, 8, 8, 8, 8, 8, 8, 8, 8, 8, 8, 8, 8, 8, 8, 8, 8, 8, 8, 8, 8, 8, 8, 8, 8, 8, 8, 8, 8, 8, 8, 8, 8, 8, 8, 8, 8, 8, 8, 8, 8, 8, 8, 8, 8, 8, 8, 8, 8, 8, 8, 8, 8, 8, 8, 8, 8, 8, 8, 8, 8, 8, 8, 8, 8, 8, 8, 8, 8, 8, 8, 8, 8, 8, 8, 8, 8, 8, 8, 8, 8, 8, 8, 8, 8, 8, 8, 8, 8, 8, 8, 8, 8, 8, 8, 8, 8, 8, 8, 8, 8, 8, 8, 8, 8, 8, 8, 8, 8]⟩ : ByteArray) ((a0 / 65536) % 256)))))) else (none)) else (none))) else (if a0 ≥ 256 then (if 0 ≤ ((a0 / 256) % 256) then (if ((a0 / 256) % 256) < 256 then (some (wrap64 ((0 + 8) + (wrap64 (bt (⟨#[0, 1, 2, 2, 3, 3, 3, 3, 4, 4, 4, 4, 4, 4, 4, 4, 5, 5, 5, 5, 5, 5, 5, 5, 5, 5, 5, 5, 5, 5, 5, 5, 6, 6, 6, 6, 6, 6, 6, 6, 6, 6, 6, 6, 6, 6, 6, 6, 6, 6, 6, 6, 6, 6, 6, 6, 6, 6, 6, 6, 6, 6, 6, 6, 7, 7, 7, 7, 7, 7, 7, 7, 7, 7, 7, 7, 7, 7, 7, 7, 7, 7, 7, 7, 7, 7, 7, 7, 7, 7, 7, 7, 7, 7, 7, 7, 7, 7, 7, 7, 7, 7, 7, 7, 7, 7, 7, 7, 7, 7, 7, 7, 7, 7, 7, 7, 7, 7, 7, 7, 7, 7, 7, 7, 7, 7, 7, 7, 8, 8, 8, 8, 8, 8, 8, 8, 8, 8, 8, 8, 8, 8, 8, 8, 8, 8, 8, 8, 8, 8, 8, 8, 8, 8, 8, 8, 8, 8, 8, 8, 8, 8, 8, 8, 8, 8, 8, 8, 8, 8, 8, 8, 8, 8, 8, 8, 8, 8, 8, 8, 8, 8, 8, 8, 8, 8, 8, 8, 8, 8, 8, 8, 8, 8, 8, 8, 8, 8, 8, 8, 8, 8, 8, 8, 8, 8, 8, 8, 8, 8, 8, 8, 8, 8, 8, 8, 8, 8, 8, 8, 8, 8, 8, 8, 8, 8, 8, 8, 8, 8, 8, 8, 8, 8, 8, 8, 8, 8, 8, 8, 8, 8, 8, 8, 8, 8, 8, 8, 8, 8, 8, 8, 8, 8, 8, 8]⟩ : ByteArray) ((a0 / 256) % 256)))))) else (none)) else (none)) else (if 0 ≤ ((a0) % 256) then (if ((a0) % 256) < 256 then (some (wrap64 (0 + (wrap64 (bt (⟨#[0, 1, 2, 2, 3, 3, 3, 3, 4, 4, 4, 4, 4, 4, 4, 4, 5, 5, 5, 5, 5, 5, 5, 5, 5, 5, 5, 5, 5, 5, 5, 5, 6, 6, 6, 6, 6, 6, 6, 6, 6, 6, 6, 6, 6, 6, 6, 6, 6, 6, 6, 6, 6, 6, 6, 6, 6, 6, 6, 6, 6, 6, 6, 6, 7, 7, 7, 7, 7, 7, 7, 7, 7, 7, 7, 7, 7, 7, 7, 7, 7, 7, 7, 7, 7, 7, 7, 7, 7, 7, 7, 7, 7, 7, 7, 7, 7, 7, 7, 7, 7, 7, 7, 7, 7, 7, 7, 7, 7, 7, 7, 7, 7, 7, 7, 7, 7, 7, 7, 7, 7, 7, 7, 7, 7, 7, 7, 7, 8, 8, 8, 8, 8, 8, 8, 8, 8, 8, 8, 8, 8, 8, 8, 8, 8, 8, 8, 8, 8, 8, 8, 8, 8, 8, 8, 8, 8, 8, 8, 8, 8, 8, 8, 8, 8, 8, 8, 8, 8, 8, 8, 8, 8, 8, 8, 8, 8, 8, 8, 8, 8, 8, 8, 8, 8, 8, 8, 8, 8, 8, 8, 8, 8, 8, 8, 8, 8, 8, 8, 8, 8, 8, 8, 8, 8, 8, 8, 8, 8, 8, 8, 8, 8, 8, 8, 8, 8, 8, 8, 8, 8, 8, 8, 8, 8, 8, 8, 8, 8, 8, 8, 8, 8, 8, 8, 8, 8, 8, 8, 8, 8, 8, 8, 8, 8, 8, 8, 8, 8, 8, 8, 8, 8, 8, 8, 8]⟩ : ByteArray) ((a0) % 256)))))) else (none)) else (none)))) = some r := h
  clear h
  by_cases c2 : a0 ≥ 65536
  · rw [if_pos c2] at H
    have c2b0 : decide (65536 ≤ a0) = true := decide_eq_true c2
    clear c2
    by_cases c3 : (a0 / 65536) ≥ 256
    · rw [if_pos c3] at H
      have c3b0 : decide (256 ≤ (a0 / 65536)) = true := decide_eq_true c3
      clear c3
      obtain ⟨ji4, hji4⟩ : ∃ j_ : Int, (((a0 / 65536) / 256) % 256) = j_ := ⟨_, rfl⟩
      replace H : (if 0 ≤ (ji4) then (if (ji4) < 256 then (some (wrap64 ((16 + 8) + (wrap64 (bt (⟨#[0, 1, 2, 2, 3, 3, 3, 3, 4, 4, 4, 4, 4, 4, 4, 4, 5, 5, 5, 5, 5, 5, 5, 5, 5, 5, 5, 5, 5, 5, 5, 5, 6, 6, 6, 6, 6, 6, 6, 6, 6, 6, 6, 6, 6, 6, 6, 6, 6, 6, 6, 6, 6, 6, 6, 6, 6, 6, 6, 6, 6, 6, 6, 6, 7, 7, 7, 7, 7, 7, 7, 7, 7, 7, 7, 7, 7, 7, 7, 7, 7, 7, 7, 7, 7, 7, 7, 7, 7, 7, 7, 7, 7, 7, 7, 7, 7, 7, 7, 7, 7, 7, 7, 7, 7, 7, 7, 7, 7, 7, 7, 7, 7, 7, 7, 7, 7, 7, 7, 7, 7, 7, 7, 7, 7, 7, 7, 7, 8, 8, 8, 8, 8, 8, 8, 8, 8, 8, 8, 8, 8, 8, 8, 8, 8, 8, 8, 8, 8, 8, 8, 8, 8, 8, 8, 8, 8, 8, 8, 8, 8, 8, 8, 8, 8, 8, 8, 8, 8, 8, 8, 8, 8, 8, 8, 8, 8, 8, 8, 8, 8, 8, 8, 8, 8, 8, 8, 8, 8, 8, 8, 8, 8, 8, 8, 8, 8, 8, 8, 8, 8, 8, 8, 8, 8, 8, 8, 8, 8, 8, 8, 8, 8, 8, 8, 8, 8, 8, 8, 8, 8, 8, 8, 8, 8, 8, 8, 8, 8, 8, 8, 8, 8, 8, 8, 8, 8, 8, 8, 8, 8, 8, 8, 8, 8, 8, 8, 8, 8, 8, 8, 8, 8, 8, 8, 8]⟩ : ByteArray) (ji4)))))) else (none)) else (none)) = some r := by first | (rw [hji4] at H; exact H) | (simp only [hji4] at H ⊢; exact H)
      by_cases c5 : 0 ≤ (ji4)
      · rw [if_pos c5] at H
        have c5b0 : decide (0 ≤ (ji4)) = true := decide_eq_true c5
        clear c5
        by_cases c6 : (ji4) < 256
        · rw [if_pos c6] at H
          have c6b0 : decide ((ji4) < 256) = true := decide_eq_true c6
          clear c6
          obtain rfl := Option.some.inj H
          have p7 : 0 ≤ ((ji4) : Int) := of_decide_eq_true (by first | (with_reducible assumption) | assumption)
          have q7 : (ji4) < (256 : Int) := of_decide_eq_true (by first | (with_reducible assumption) | assumption)
          have hx7 := bt_at (⟨#[0, 1, 2, 2, 3, 3, 3, 3, 4, 4, 4, 4, 4, 4, 4, 4, 5, 5, 5, 5, 5, 5, 5, 5, 5, 5, 5, 5, 5, 5, 5, 5, 6, 6, 6, 6, 6, 6, 6, 6, 6, 6, 6, 6, 6, 6, 6, 6, 6, 6, 6, 6, 6, 6, 6, 6, 6, 6, 6, 6, 6, 6, 6, 6, 7, 7, 7, 7, 7, 7, 7, 7, 7, 7, 7, 7, 7, 7, 7, 7, 7, 7, 7, 7, 7, 7, 7, 7, 7, 7, 7, 7, 7, 7, 7, 7, 7, 7, 7, 7, 7, 7, 7, 7, 7, 7, 7, 7, 7, 7, 7, 7, 7, 7, 7, 7, 7, 7, 7, 7, 7, 7, 7, 7, 7, 7, 7, 7, 8, 8, 8, 8, 8, 8, 8, 8, 8, 8, 8, 8, 8, 8, 8, 8, 8, 8, 8, 8, 8, 8, 8, 8, 8, 8, 8, 8, 8, 8, 8, 8, 8, 8, 8, 8, 8, 8, 8, 8, 8, 8, 8, 8, 8, 8, 8, 8, 8, 8, 8, 8, 8, 8, 8, 8, 8, 8, 8, 8, 8, 8, 8, 8, 8, 8, 8, 8, 8, 8, 8, 8, 8, 8, 8, 8, 8, 8, 8, 8, 8, 8, 8, 8, 8, 8, 8, 8, 8, 8, 8, 8, 8, 8, 8, 8, 8, 8, 8, 8, 8, 8, 8, 8, 8, 8, 8, 8, 8, 8, 8, 8, 8, 8, 8, 8, 8, 8, 8, 8, 8, 8, 8, 8, 8, 8, 8, 8]⟩ : ByteArray) (ji4)
          replace p7 := eq_true p7
          replace q7 := eq_true q7
          go_enter Tryd.func83, Tryd.ntmps83
          go_wp2
          go_ret
          exact ⟨by first | rfl | (simp; done) | (simp only [← hji4] <;> (first | rfl | simp)) | (simp [*]; done), by repeat (first | exact Drawn0.refl _ | apply Drawn0.step)⟩
        · rw [if_neg c6] at H
          exact absurd H (by simp)
      · rw [if_neg c5] at H
        exact absurd H (by simp)
    · rw [if_neg c3] at H
      have c3b0 : decide (256 ≤ (a0 / 65536)) = false := decide_eq_false c3
      clear c3
      obtain ⟨ji8, hji8⟩ : ∃ j_ : Int, ((a0 / 65536) % 256) = j_ := ⟨_, rfl⟩
      replace H : (if 0 ≤ (ji8) then (if (ji8) < 256 then (some (wrap64 (16 + (wrap64 (bt (⟨#[0, 1, 2, 2, 3, 3, 3, 3, 4, 4, 4, 4, 4, 4, 4, 4, 5, 5, 5, 5, 5, 5, 5, 5, 5, 5, 5, 5, 5, 5, 5, 5, 6, 6, 6, 6, 6, 6, 6, 6, 6, 6, 6, 6, 6, 6, 6, 6, 6, 6, 6, 6, 6, 6, 6, 6, 6, 6, 6, 6, 6, 6, 6, 6, 7, 7, 7, 7, 7, 7, 7, 7, 7, 7, 7, 7, 7, 7, 7, 7, 7, 7, 7, 7, 7, 7, 7, 7, 7, 7, 7, 7, 7, 7, 7, 7, 7, 7, 7, 7, 7, 7, 7, 7, 7, 7, 7, 7, 7, 7, 7, 7, 7, 7, 7, 7, 7, 7, 7, 7, 7, 7, 7, 7, 7, 7, 7, 7, 8, 8, 8, 8, 8, 8, 8, 8, 8, 8, 8, 8, 8, 8, 8, 8, 8, 8, 8, 8, 8, 8, 8, 8, 8, 8, 8, 8, 8, 8, 8, 8, 8, 8, 8, 8, 8, 8, 8, 8, 8, 8, 8, 8, 8, 8, 8, 8, 8, 8, 8, 8, 8, 8, 8, 8, 8, 8, 8, 8, 8, 8, 8, 8, 8, 8, 8, 8, 8, 8, 8, 8, 8, 8, 8, 8, 8, 8, 8, 8, 8, 8, 8, 8, 8, 8, 8, 8, 8, 8, 8, 8, 8, 8, 8, 8, 8, 8, 8, 8, 8, 8, 8, 8, 8, 8, 8, 8, 8, 8, 8, 8, 8, 8, 8, 8, 8, 8, 8, 8, 8, 8, 8, 8, 8, 8, 8, 8]⟩ : ByteArray) (ji8)))))) else (none)) else (none)) = some r := by first | (rw [hji8] at H; exact H) | (simp only [hji8] at H ⊢; exact H)
      by_cases c9 : 0 ≤ (ji8)
      · rw [if_pos c9] at H
        have c9b0 : decide (0 ≤ (ji8)) = true := decide_eq_true c9
        clear c9
        by_cases c10 : (ji8) < 256
        · rw [if_pos c10] at H
          have c10b0 : decide ((ji8) < 256) = true := decide_eq_true c10
          clear c10
          obtain rfl := Option.some.inj H
          have p11 : 0 ≤ ((ji8) : Int) := of_decide_eq_true (by first | (with_reducible assumption) | assumption)
          have q11 : (ji8) < (256 : Int) := of_decide_eq_true (by first | (with_reducible assumption) | assumption)
          have hx11 := bt_at (⟨#[0, 1, 2, 2, 3, 3, 3, 3, 4, 4, 4, 4, 4, 4, 4, 4, 5, 5, 5, 5, 5, 5, 5, 5, 5, 5, 5, 5, 5, 5, 5, 5, 6, 6, 6, 6, 6, 6, 6, 6, 6, 6, 6, 6, 6, 6, 6, 6, 6, 6, 6, 6, 6, 6, 6, 6, 6, 6, 6, 6, 6, 6, 6, 6, 7, 7, 7, 7, 7, 7, 7, 7, 7, 7, 7, 7, 7, 7, 7, 7, 7, 7, 7, 7, 7, 7, 7, 7, 7, 7, 7, 7, 7, 7, 7, 7, 7, 7, 7, 7, 7, 7, 7, 7, 7, 7, 7, 7, 7, 7, 7, 7, 7, 7, 7, 7, 7, 7, 7, 7, 7, 7, 7, 7, 7, 7, 7, 7, 8, 8, 8, 8, 8, 8, 8, 8, 8, 8, 8, 8, 8, 8, 8, 8, 8, 8, 8, 8, 8, 8, 8, 8, 8, 8, 8, 8, 8, 8, 8, 8, 8, 8, 8, 8, 8, 8, 8, 8, 8, 8, 8, 8, 8, 8, 8, 8, 8, 8, 8, 8, 8, 8, 8, 8, 8, 8, 8, 8, 8, 8, 8, 8, 8, 8, 8, 8, 8, 8, 8, 8, 8, 8, 8, 8, 8, 8, 8, 8, 8, 8, 8, 8, 8, 8, 8, 8, 8, 8, 8, 8, 8, 8, 8, 8, 8, 8, 8, 8, 8, 8, 8, 8, 8, 8, 8, 8, 8, 8, 8, 8, 8, 8, 8, 8, 8, 8, 8, 8, 8, 8, 8, 8, 8, 8, 8, 8]⟩ : ByteArray) (ji8)
          replace p11 := eq_true p11
          replace q11 := eq_true q11
          go_enter Tryd.func83, Tryd.ntmps83
          go_wp2
          go_ret
          exact ⟨by first | rfl | (simp; done) | (simp only [← hji8] <;> (first | rfl | simp)) | (simp [*]; done), by repeat (first | exact Drawn0.refl _ | apply Drawn0.step)⟩
        · rw [if_neg c10] at H
          exact absurd H (by simp)
      · rw [if_neg c9] at H
        exact absurd H (by simp)
  · rw [if_neg c2] at H
    have c2b0 : decide (65536 ≤ a0) = false := decide_eq_false c2
    clear c2
    by_cases c12 : a0 ≥ 256
    · rw [if_pos c12] at H
      have c12b0 : decide (256 ≤ a0) = true := decide_eq_true c12
      clear c12
      obtain ⟨ji13, hji13⟩ : ∃ j_ : Int, ((a0 / 256) % 256) = j_ := ⟨_, rfl⟩
      replace H : (if 0 ≤ (ji13) then (if (ji13) < 256 then (some (wrap64 ((0 + 8) + (wrap64 (bt (⟨#[0, 1, 2, 2, 3, 3, 3, 3, 4, 4, 4, 4, 4, 4, 4, 4, 5, 5, 5, 5, 5, 5, 5, 5, 5, 5, 5, 5, 5, 5, 5, 5, 6, 6, 6, 6, 6, 6, 6, 6, 6, 6, 6, 6, 6, 6, 6, 6, 6, 6, 6, 6, 6, 6, 6, 6, 6, 6, 6, 6, 6, 6, 6, 6, 7, 7, 7, 7, 7, 7, 7, 7, 7, 7, 7, 7, 7, 7, 7, 7, 7, 7, 7, 7, 7, 7, 7, 7, 7, 7, 7, 7, 7, 7, 7, 7, 7, 7, 7, 7, 7, 7, 7, 7, 7, 7, 7, 7, 7, 7, 7, 7, 7, 7, 7, 7, 7, 7, 7, 7, 7, 7, 7, 7, 7, 7, 7, 7, 8, 8, 8, 8, 8, 8, 8, 8, 8, 8, 8, 8, 8, 8, 8, 8, 8, 8, 8, 8, 8, 8, 8, 8, 8, 8, 8, 8, 8, 8, 8, 8, 8, 8, 8, 8, 8, 8, 8, 8, 8, 8, 8, 8, 8, 8, 8, 8, 8, 8, 8, 8, 8, 8, 8, 8, 8, 8, 8, 8, 8, 8, 8, 8, 8, 8, 8, 8, 8, 8, 8, 8, 8, 8, 8, 8, 8, 8, 8, 8, 8, 8, 8, 8, 8, 8, 8, 8, 8, 8, 8, 8, 8, 8, 8, 8, 8, 8, 8, 8, 8, 8, 8, 8, 8, 8, 8, 8, 8, 8, 8, 8, 8, 8, 8, 8, 8, 8, 8, 8, 8, 8, 8, 8, 8, 8, 8, 8]⟩ : ByteArray) (ji13)))))) else (none)) else (none)) = some r := by first | (rw [hji13] at H; exact H) | (simp only [hji13] at H ⊢; exact H)
      by_cases c14 : 0 ≤ (ji13)
      · rw [if_pos c14] at H
        have c14b0 : decide (0 ≤ (ji13)) = true := decide_eq_true c14
        clear c14
        by_cases c15 : (ji13) < 256
        · rw [if_pos c15] at H
          have c15b0 : decide ((ji13) < 256) = true := decide_eq_true c15
          clear c15
          obtain rfl := Option.some.inj H
          have p16 : 0 ≤ ((ji13) : Int) := of_decide_eq_true (by first | (with_reducible assumption) | assumption)
          have q16 : (ji13) < (256 : Int) := of_decide_eq_true (by first | (with_reducible assumption) | assumption)
          have hx16 := bt_at (⟨#[0, 1, 2, 2, 3, 3, 3, 3, 4, 4, 4, 4, 4, 4, 4, 4, 5, 5, 5, 5, 5, 5, 5, 5, 5, 5, 5, 5, 5, 5, 5, 5, 6, 6, 6, 6, 6, 6, 6, 6, 6, 6, 6, 6, 6, 6, 6, 6, 6, 6, 6, 6, 6, 6, 6, 6, 6, 6, 6, 6, 6, 6, 6, 6, 7, 7, 7, 7, 7, 7, 7, 7, 7, 7, 7, 7, 7, 7, 7, 7, 7, 7, 7, 7, 7, 7, 7, 7, 7, 7, 7, 7, 7, 7, 7, 7, 7, 7, 7, 7, 7, 7, 7, 7, 7, 7, 7, 7, 7, 7, 7, 7, 7, 7, 7, 7, 7, 7, 7, 7, 7, 7, 7, 7, 7, 7, 7, 7, 8, 8, 8, 8, 8, 8, 8, 8, 8, 8, 8, 8, 8, 8, 8, 8, 8, 8, 8, 8, 8, 8, 8, 8, 8, 8, 8, 8, 8, 8, 8, 8, 8, 8, 8, 8, 8, 8, 8, 8, 8, 8, 8, 8, 8, 8, 8, 8, 8, 8, 8, 8, 8, 8, 8, 8, 8, 8, 8, 8, 8, 8, 8, 8, 8, 8, 8, 8, 8, 8, 8, 8, 8, 8, 8, 8, 8, 8, 8, 8, 8, 8, 8, 8, 8, 8, 8, 8, 8, 8, 8, 8, 8, 8, 8, 8, 8, 8, 8, 8, 8, 8, 8, 8, 8, 8, 8, 8, 8, 8, 8, 8, 8, 8, 8, 8, 8, 8, 8, 8, 8, 8, 8, 8, 8, 8, 8, 8]⟩ : ByteArray) (ji13)
          replace p16 := eq_true p16
          replace q16 := eq_true q16
          go_enter Tryd.func83, Tryd.ntmps83
          go_wp2
          go_ret
          exact ⟨by first | rfl | (simp; done) | (simp only [← hji13] <;> (first | rfl | simp)) | (simp [*]; done), by repeat (first | exact Drawn0.refl _ | apply Drawn0.step)⟩
        · rw [if_neg c15] at H
          exact absurd H (by simp)
      · rw [if_neg c14] at H
        exact absurd H (by simp)
    · rw [if_neg c12] at H
      have c12b0 : decide (256 ≤ a0) = false := decide_eq_false c12
      clear c12
      obtain ⟨ji17, hji17⟩ : ∃ j_ : Int, ((a0) % 256) = j_ := ⟨_, rfl⟩
      replace H : (if 0 ≤ (ji17) then (if (ji17) < 256 then (some (wrap64 (0 + (wrap64 (bt (⟨#[0, 1, 2, 2, 3, 3, 3, 3, 4, 4, 4, 4, 4, 4, 4, 4, 5, 5, 5, 5, 5, 5, 5, 5, 5, 5, 5, 5, 5, 5, 5, 5, 6, 6, 6, 6, 6, 6, 6, 6, 6, 6, 6, 6, 6, 6, 6, 6, 6, 6, 6, 6, 6, 6, 6, 6, 6, 6, 6, 6, 6, 6, 6, 6, 7, 7, 7, 7, 7, 7, 7, 7, 7, 7, 7, 7, 7, 7, 7, 7, 7, 7, 7, 7, 7, 7, 7, 7, 7, 7, 7, 7, 7, 7, 7, 7, 7, 7, 7, 7, 7, 7, 7, 7, 7, 7, 7, 7, 7, 7, 7, 7, 7, 7, 7, 7, 7, 7, 7, 7, 7, 7, 7, 7, 7, 7, 7, 7, 8, 8, 8, 8, 8, 8, 8, 8, 8, 8, 8, 8, 8, 8, 8, 8, 8, 8, 8, 8, 8, 8, 8, 8, 8, 8, 8, 8, 8, 8, 8, 8, 8, 8, 8, 8, 8, 8, 8, 8, 8, 8, 8, 8, 8, 8, 8, 8, 8, 8, 8, 8, 8, 8, 8, 8, 8, 8, 8, 8, 8, 8, 8, 8, 8, 8, 8, 8, 8, 8, 8, 8, 8, 8, 8, 8, 8, 8, 8, 8, 8, 8, 8, 8, 8, 8, 8, 8, 8, 8, 8, 8, 8, 8, 8, 8, 8, 8, 8, 8, 8, 8, 8, 8, 8, 8, 8, 8, 8, 8, 8, 8, 8, 8, 8, 8, 8, 8, 8, 8, 8, 8, 8, 8, 8, 8, 8, 8]⟩ : ByteArray) (ji17)))))) else (none)) else (none)) = some r := by first | (rw [hji17] at H; exact H) | (simp only [hji17] at H ⊢; exact H)
      by_cases c18 : 0 ≤ (ji17)
      · rw [if_pos c18] at H
        have c18b0 : decide (0 ≤ (ji17)) = true := decide_eq_true c18
        clear c18
        by_cases c19 : (ji17) < 256
        · rw [if_pos c19] at H
          have c19b0 : decide ((ji17) < 256) = true := decide_eq_true c19
          clear c19
          obtain rfl := Option.some.inj H
          have p20 : 0 ≤ ((ji17) : Int) := of_decide_eq_true (by first | (with_reducible assumption) | assumption)
          have q20 : (ji17) < (256 : Int) := of_decide_eq_true (by first | (with_reducible assumption) | assumption)
          have hx20 := bt_at (⟨#[0, 1, 2, 2, 3, 3, 3, 3, 4, 4, 4, 4, 4, 4, 4, 4, 5, 5, 5, 5, 5, 5, 5, 5, 5, 5, 5, 5, 5, 5, 5, 5, 6, 6, 6, 6, 6, 6, 6, 6, 6, 6, 6, 6, 6, 6, 6, 6, 6, 6, 6, 6, 6, 6, 6, 6, 6, 6, 6, 6, 6, 6, 6, 6, 7, 7, 7, 7, 7, 7, 7, 7, 7, 7, 7, 7, 7, 7, 7, 7, 7, 7, 7, 7, 7, 7, 7, 7, 7, 7, 7, 7, 7, 7, 7, 7, 7, 7, 7, 7, 7, 7, 7, 7, 7, 7, 7, 7, 7, 7, 7, 7, 7, 7, 7, 7, 7, 7, 7, 7, 7, 7, 7, 7, 7, 7, 7, 7, 8, 8, 8, 8, 8, 8, 8, 8, 8, 8, 8, 8, 8, 8, 8, 8, 8, 8, 8, 8, 8, 8, 8, 8, 8, 8, 8, 8, 8, 8, 8, 8, 8, 8, 8, 8, 8, 8, 8, 8, 8, 8, 8, 8, 8, 8, 8, 8, 8, 8, 8, 8, 8, 8, 8, 8, 8, 8, 8, 8, 8, 8, 8, 8, 8, 8, 8, 8, 8, 8, 8, 8, 8, 8, 8, 8, 8, 8, 8, 8, 8, 8, 8, 8, 8, 8, 8, 8, 8, 8, 8, 8, 8, 8, 8, 8, 8, 8, 8, 8, 8, 8, 8, 8, 8, 8, 8, 8, 8, 8, 8, 8, 8, 8, 8, 8, 8, 8, 8, 8, 8, 8, 8, 8, 8, 8, 8, 8]⟩ : ByteArray) (ji17)
          replace p20 := eq_true p20
          replace q20 := eq_true q20
          go_enter Tryd.func83, Tryd.ntmps83
          go_wp2
          go_ret
          exact ⟨by first | rfl | (simp; done) | (simp only [← hji17] <;> (first | rfl | simp)) | (simp [*]; done), by repeat (first | exact Drawn0.refl _ | apply Drawn0.step)⟩
        · rw [if_neg c19] at H
          exact absurd H (by simp)
      · rw [if_neg c18] at H
        exact absurd H (by simp)

/-! ### bits_Len64: function 84 -/
def bits_Len64.f (a0 : Int) : Option (Int) := if 0 ≤ a0 ∧ a0 < 18446744073709551616 then some (lenI a0) else none
theorem bits_Len64.calls (a0 : Int) (r : Int) (w : World) (h : bits_Len64.f a0 = some r) :
    Calls Tryd.prog 84 #[.int .u64 a0] w fun e w' => e = .returned (.int .i64 r) ∧ Drawn0 w w' := by
  unfold bits_Len64.f at h
  split at h
  · rename_i hb
    obtain rfl := Option.some.inj h
    exact (len64_calls a0 w hb.1 hb.2).mono fun e w' ⟨he, hw⟩ => ⟨he, by subst hw; exact Drawn0.refl _⟩
  · cases h


/-! ### bits_Len: function 73 -/
def bits_Len.f (a0 : Int) : Option (Int) := (bits_Len64.f a0).bind fun t103 => (some t103)
set_option maxHeartbeats 8000000 in
set_option maxRecDepth 100000 in
theorem bits_Len.calls (a0 : Int) (r : Int) (w : World) (h : bits_Len.f a0 = some r) :
    Calls Tryd.prog 73 #[.int .u64 a0] w fun e w' => e = .returned (.int .i64 r) ∧ Drawn0 w w' := by
  have H : ((bits_Len64.f a0).bind fun t103 => (some t103)) = some r := h
  clear h
  replace H := Option.bind_eq_some_iff.mp H
  obtain ⟨t103, A20, H⟩ := H
  replace H : (some t103) = some r := H
  have A2 := Aside0.mk A20
  clear A20
  obtain rfl := Option.some.inj H
  go_enter Tryd.func73, Tryd.ntmps73
  go_wp2_with (first | ((with_reducible refine gate_callee (f := 84) rfl ?_); refine goesL_ (some 7) rfl rfl Tryd.func84 (by kernel_rfl) rfl #[.int .u64 a0] rfl (by (try simp only [List.map_toArray, List.map_cons, List.map_nil]); first | done | rfl | (simp only [List.length_drop, List.length_take]; rfl)) ?_; (with_reducible refine (bits_Len64.calls a0 t103 _ A2.out).mono ?_); rintro e w' ⟨rfl, ⟨nd, rfl⟩⟩; refine ⟨_, rfl, ?_⟩))
  go_ret
  exact ⟨by first | rfl | (simp; done) | (simp [*]; done), by repeat (first | exact Drawn0.refl _ | apply Drawn0.step)⟩

/-! ### deflate_writer_length: function 61 -/
theorem mask_spell (v e : Nat) (he : e ≤ 20) (hv : v < 2 ^ 40) : bits .and .i64 (v : Int) (wrap64 (wrap64 ((2 : Int) ^ e) - 1)) = ((v % 2 ^ e : Nat) : Int) := by
  have h := and_mask64 v e he hv
  have h2 : 2 ^ e ≤ 2 ^ 20 := Nat.pow_le_pow_right (by decide) he
  have h3 : (2 : Int) ^ e = ((2 ^ e : Nat) : Int) := by simp
  have hp : 0 < 2 ^ e := Nat.pow_pos (by decide)
  have e1 : wrap64 (wrap64 ((2 : Int) ^ e) - 1) = ((2 ^ e : Nat) : Int) - 1 := by
    rw [h3]
    simp only [wrap64]
    omega
  rw [e1]
  exact h
theorem len_call (v : Nat) (h : v < 18446744073709551616) : bits_Len.f (v : Int) = some (lenI v) := by
  unfold bits_Len.f bits_Len64.f
  rw [if_pos ⟨by omega, by omega⟩]
  rfl
/-- How many bits more behind the code: the bits of v but for d. -/
def exN (v d : Nat) : Nat := (lenI v).toNat - d
theorem exN_eq (v d k : Nat) (hk : d ≤ k) (h : 2 ^ k ≤ v) : lenI (v : Int) = ((exN v d : Nat) : Int) + d ∧ 2 ^ (exN v d + d - 1) ≤ v ∧ v < 2 ^ (exN v d + d) := by
  have h1 := lenI_gt (v : Int) k (by omega)
  have hp : 0 < 2 ^ k := Nat.pow_pos (by decide)
  have e : lenI (v : Int) = ((exN v d : Nat) : Int) + d := by unfold exN; omega
  have h2 := (lenI_iff (v : Int) (lenI v) (by omega) (by omega)).1 rfl
  rw [e] at h2
  rw [show (((exN v d : Nat) : Int) + d).toNat = exN v d + d from by omega, Int.toNat_natCast] at h2
  exact ⟨e, h2.1, h2.2⟩
def lenS (n : Nat) : Nat := if n = 258 then 285 else if n < 11 then n + 254 else 257 + 4 * exN (n - 3) 3 + (n - 3) / 2 ^ exN (n - 3) 3
def lenE (n : Nat) : Nat := if n = 258 then 0 else if n < 11 then 0 else exN (n - 3) 3
def lenX (n : Nat) : Nat := if n = 258 then 0 else if n < 11 then 0 else (n - 3) % 2 ^ exN (n - 3) 3
/-- A length's bits. -/
def lenV (n : Nat) : Nat := symV (lenS n) + lenX n * 2 ^ symN (lenS n)
def lenN (n : Nat) : Nat := symN (lenS n) + lenE n
structure LenIs (v x d : Nat) : Prop where
  eq : bits_Len.f (v : Int) = some ((x : Int) + d)
theorem symN_le (s : Nat) : symN s ≤ 9 := by
  unfold symN
  split <;> (try split) <;> (try split) <;> omega
set_option maxHeartbeats 1000000 in
set_option maxRecDepth 100000 in
theorem length_calls (base g : Nat) (W : World) (T N n : Nat) (hw : Wr base g W T N) (hn0 : 3 ≤ n) (hn1 : n ≤ 258) (hN : N + 30 ≤ 1000000000000000) :
    Calls Tryd.prog 61 #[.pointer (some ⟨g, 0, none⟩), .int .i64 n] W fun e w' => Puts base g W T N (lenV n) (lenN n) e w' := by
  have hW := Lib.hid hw
  clear hw
  by_cases h1 : n = 258
  · subst h1
    have hV : lenV 258 = symV 285 := by decide +kernel
    have hM : lenN 258 = symN 285 := by decide +kernel
    rw [hV, hM]
    go_enter Tryd.func61, Tryd.ntmps61
    go_wp2_with fail
    refine (symbol_calls base g W T N 285 hW.out (by omega) (by omega)).mono ?_
    rintro e w2 ⟨rfl, h2, h3⟩
    go_wp2_with fail
    exact bodyPost_ret (results_none rfl _ _ _) rfl ⟨rfl, h2, h3⟩
  · have i1 : ¬ (n : Int) = 258 := by omega
    by_cases h2 : n < 11
    · have hS : lenS n = n + 254 := by unfold lenS; rw [if_neg h1, if_pos h2]
      have hV : lenV n = symV (n + 254) := by unfold lenV lenX; rw [hS, if_neg h1, if_pos h2]; omega
      have hM : lenN n = symN (n + 254) := by unfold lenN lenE; rw [hS, if_neg h1, if_pos h2]; omega
      rw [hV, hM]
      have i2 : (n : Int) < 11 := by omega
      go_enter Tryd.func61, Tryd.ntmps61
      go_wp2_with fail
      refine (symbol_calls base g W T N (n + 254) hW.out (by omega) (by omega)).mono ?_
      rintro e w2 ⟨rfl, h2, h3⟩
      go_wp2_with fail
      exact bodyPost_ret (results_none rfl _ _ _) rfl ⟨rfl, h2, h3⟩
    · have i2 : ¬ (n : Int) < 11 := by omega
      obtain ⟨v, hnv⟩ : ∃ v, v = n - 3 := ⟨n - 3, rfl⟩
      have hex := exN_eq v 3 3 (by omega) (by omega)
      have hS : lenS n = 257 + 4 * exN v 3 + v / 2 ^ exN v 3 := by unfold lenS; rw [if_neg h1, if_neg h2, ← hnv]
      have hV : lenV n = symV (257 + 4 * exN v 3 + v / 2 ^ exN v 3) + v % 2 ^ exN v 3 * 2 ^ symN (257 + 4 * exN v 3 + v / 2 ^ exN v 3) := by unfold lenV lenX; rw [hS, if_neg h1, if_neg h2, ← hnv]
      have hM : lenN n = symN (257 + 4 * exN v 3 + v / 2 ^ exN v 3) + exN v 3 := by unfold lenN lenE; rw [hS, if_neg h1, if_neg h2, ← hnv]
      rw [hV, hM]
      have hnv3 : (n : Int) - 3 = (v : Int) := by omega
      have HNV := Lib.hid hnv3
      generalize exN v 3 = x at *
      have hx1 : 1 ≤ x := by
        rcases Nat.eq_zero_or_pos x with rfl | h
        · have := hex.2.2; omega
        · exact h
      have hx5 : x ≤ 5 := by
        rcases Nat.lt_or_ge 5 x with h | h
        · have h9 : 2 ^ 8 ≤ 2 ^ (x + 3 - 1) := Nat.pow_le_pow_right (by decide) (by omega)
          have := hex.2.1
          omega
        · exact h
      have hdiv : 4 ≤ v / 2 ^ x ∧ v / 2 ^ x < 8 := by
        have hp : 0 < 2 ^ x := Nat.pow_pos (by decide)
        constructor
        · rw [Nat.le_div_iff_mul_le hp, show 4 * 2 ^ x = 2 ^ (x + 3 - 1) from by rw [show x + 3 - 1 = 2 + x from by omega, Nat.pow_add]]
          exact hex.2.1
        · rw [Nat.div_lt_iff_lt_mul hp, show 8 * 2 ^ x = 2 ^ (x + 3) from by rw [show x + 3 = 3 + x from by omega, Nat.pow_add]]
          exact hex.2.2
      have hand := and_mask64 v x (by omega) (by omega)
      have HR : LenIs v x 3 := ⟨by rw [len_call v (by omega), hex.1]⟩
      have HAND := Lib.hid hand
      have hx0 : (0 : Int) ≤ (x : Int) := by omega
      have hx64 : (x : Int) < 64 := by omega
      have hdi : ((v : Int) / 2 ^ x) = ((v / 2 ^ x : Nat) : Int) := by simp
      have HDI := Lib.hid hdi
      have HDIV := Lib.hid hdiv
      have hv256 : v < 256 := by omega
      clear hand hV hM hS hdi hdiv hex hnv h1 h2 hnv3
      go_enter Tryd.func61, Tryd.ntmps61
      go_wp2_with fail
      try rw [HNV.out]
      refine (bits_Len.calls _ _ W HR.eq).mono ?_
      rintro e w1 ⟨rfl, hd⟩
      obtain ⟨m1, rfl⟩ := hd.out
      go_wp2_with fail
      have hq : wrap64 (wrap64 (261 + 4 * (x : Int) + (v : Int) / 2 ^ x) - 4) = ((257 + 4 * x + v / 2 ^ x : Nat) : Int) := by
        have h9 := HDIV.out
        rw [HDI.out]
        generalize v / 2 ^ x = y at h9 ⊢
        simp only [wrap64]
        omega
      rw [hq]
      have h9 := HDIV.out
      refine (symbol_calls base g (W.drewN m1) T N _ (hW.out.drewN m1) (by omega) (by omega)).mono ?_
      clear hq h9
      rintro e w2 ⟨rfl, hs2, hw2⟩
      have HS2 := Lib.hid hs2
      have HW2 := Lib.hid hw2
      clear hs2 hw2
      go_wp2_with fail
      rw [mask_spell v x (by omega) (by omega)]
      have hmod : v % 2 ^ x < 2 ^ x := Nat.mod_lt _ (Nat.pow_pos (by decide))
      have hsn := symN_le (257 + 4 * x + v / 2 ^ x)
      refine (number_calls base g w2 _ _ _ x HW2.out hmod (by omega) (by omega)).mono ?_
      clear hmod hsn
      rintro e w3 ⟨rfl, hs3, hw3⟩
      have HS3 := Lib.hid hs3
      have HW3 := Lib.hid hw3
      clear hs3 hw3
      go_wp2_with fail
      refine bodyPost_end (results_none rfl _ _ _) rfl ?_
      exact Puts.mk' (e := .returned (.tuple #[])) ⟨rfl, ((SF.refl g W).drewN m1).trans HS2.out, HW2.out⟩ ⟨rfl, HS3.out, HW3.out⟩


end Go.Proofs.YtkdklcamgcmifaaDoor.PM
