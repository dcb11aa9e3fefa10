-- Written by fprint.py, a program of this session, over the translation. Not trusted: Lean checks it.
import Derived.Test.YtkdklcamgcmifaaDoorPZx0
import Derived.Test.YtkdklcamgcmifaaDoorPZx1
import Derived.Test.YtkdklcamgcmifaaDoorPZx3
import Derived.Test.YtkdklcamgcmifaaDoorPZx4
namespace Go.Proofs.YtkdklcamgcmifaaDoor.PZ
open Go.RowKit Go.Proofs.YtkdklcamgcmifaaDoorW.PrintWords Go.Proofs.YtkdklcamgcmifaaDoorW.PrintLast Go.Proofs.YtkdklcamgcmifaaDoorW.PrintMore
attribute [local go_sem] max2_int min2_int max_two min_two max_three min_three max_four min_four   -- for this text's walks alone
set_option linter.unusedVariables false
set_option linter.unusedSimpArgs false

/-! ### codicillaw04_awake: function 19 -/
def codicillaw04_awake.f : Option (Bool) := some true
theorem aw4_a : fixedB [97] = [75, 4, 0] := by
  unfold fixedB
  rw [fixT_lit (l := [97]) (i := 0) (by decide) (by decide +kernel), fixT_end (by decide)]
  decide +kernel
theorem aw4_c : fixedB [97, 97, 97, 97, 97, 97, 97, 97] = [75, 132, 2, 0] := by
  unfold fixedB
  have hm : mat [97, 97, 97, 97, 97, 97, 97, 97] 1 = (7, 1) := by decide +kernel
  rw [fixT_lit (i := 0) (by decide) (by decide +kernel), fixT_mat (i := 0 + 1) (by decide) (by rw [show 0 + 1 = 1 from rfl, hm]; decide), show 0 + 1 = 1 from rfl, hm, fixT_end (by decide)]
  decide +kernel
theorem aw4_1 : deflate_Deflate.f [97] 1 = some ([75, 4, 0], 0) := by
  simp [deflate_Deflate.f, docD, aw4_a]
theorem aw4_2 : deflate_Deflate.f [97, 98, 99] 0 = some ([1, 3, 0, 252, 255, 97, 98, 99], 0) := by
  have h : storedB [97, 98, 99] = [1, 3, 0, 252, 255, 97, 98, 99] := by decide +kernel
  simp [deflate_Deflate.f, docD, h]
theorem aw4_3 : deflate_Deflate.f [97, 97, 97, 97, 97, 97, 97, 97] 1 = some ([75, 132, 2, 0], 0) := by
  simp [deflate_Deflate.f, docD, aw4_c]
theorem aw4_k1 (W : World) : ReadsInt (W.alloc (.cells #[.int .u8 97] 5 (1, 2))) .u8 (some ⟨W.heap.size, 0, none⟩) 1 [97] := const_reads W 5 [97] _ _ rfl (by decide)
theorem aw4_k2 (W : World) : ReadsInt (W.alloc (.cells #[.int .u8 97, .int .u8 98, .int .u8 99] 5 (3, 4))) .u8 (some ⟨W.heap.size, 0, none⟩) 3 [97, 98, 99] := const_reads W 5 [97, 98, 99] _ _ rfl (by decide)
theorem aw4_k3 (W : World) : ReadsInt (W.alloc (.cells #[.int .u8 97, .int .u8 97, .int .u8 97, .int .u8 97, .int .u8 97, .int .u8 97, .int .u8 97, .int .u8 97] 5 (8, 9))) .u8 (some ⟨W.heap.size, 0, none⟩) 8 [97, 97, 97, 97, 97, 97, 97, 97] := const_reads W 5 [97, 97, 97, 97, 97, 97, 97, 97] _ _ rfl (by decide)
theorem aw4_open {w : World} {base : Nat} {v : Value} {r : List Int} (h : Kd.R (Kd.int .u8) 5 w base (fun _ => True) v r) : ∃ A c, v = .slice A r.length c ∧ r.length ≤ c ∧ ReadsInt w .u8 A r.length r ∧ Bs 5 w base v r := by
  obtain ⟨A, c, e, hc, hr⟩ := own_reads_of_le (enc := Value.int .u8) (d := 0) (Bs.ofR h)
  exact ⟨A, c, e, hc, own_reads' (by rw [← e]; exact Bs.ofR h), Bs.ofR h⟩
set_option maxRecDepth 8000 in
set_option maxHeartbeats 2000000 in
theorem codicillaw04_awake.calls (r : Bool) (w : World) (h : codicillaw04_awake.f = some r) :
    Calls Tryd.prog 19 #[] w fun e w' => e = .returned (.bool r) ∧ Below w.heap.size w w' := by
  obtain rfl := Option.some.inj h
  have kc := fun (w : World) (C : Array Value) (n c : Nat) => Lib.run_convert_bytes_const (P := Tryd.prog) w 22 5 C n c Tryd.underlying22 Tryd.underlying5
  have HS1 := Lib.hid (show codicilref01_Same.f [75, 4, 0] [75, 4, 0] = some true by simp [codicilref01_Same.f])
  have HS2 := Lib.hid (show codicilref01_Same.f [1, 3, 0, 252, 255, 97, 98, 99] [1, 3, 0, 252, 255, 97, 98, 99] = some true by simp [codicilref01_Same.f])
  have HS3 := Lib.hid (show codicilref01_Same.f [75, 132, 2, 0] [75, 132, 2, 0] = some true by simp [codicilref01_Same.f])
  go_enter Tryd.func19, Tryd.ntmps19
  go_wp2_with fail
  refine (deflate_Deflate.calls _ 1 [97] 1 [75, 4, 0] 0 _ (toC (aw4_k1 w)) (by decide) aw4_1).mono ?_
  rintro e w1 ⟨v1, rfl, hr1, hd⟩
  have HB1 := Lib.hid (show Below w.heap.size w w1 from below_then (below_alloc (Below.refl _ _) _) (below_alloc (Below.refl _ _) _).size hd)
  obtain ⟨A1, c1, rfl, hc1, hR1, hO1⟩ := aw4_open hr1
  have HR1 := Lib.hid hR1
  clear hr1 hd hR1 hO1
  go_wp2_with fail
  refine (deflate_Deflate.calls _ 3 [97, 98, 99] 0 [1, 3, 0, 252, 255, 97, 98, 99] 0 _ (toC (aw4_k2 w1)) (by decide) aw4_2).mono ?_
  rintro e w2 ⟨v2, rfl, hr2, hd⟩
  have HD2 := Lib.hid (show Below w1.heap.size w1 w2 from below_then (below_alloc (Below.refl _ _) _) (below_alloc (Below.refl _ _) _).size hd)
  have HB2 := Lib.hid (show Below w.heap.size w w2 from below_then HB1.out HB1.out.size HD2.out)
  obtain ⟨A2, c2, rfl, hc2, hR2, hO2⟩ := aw4_open hr2
  have HR2 := Lib.hid hR2
  have HR12 := Lib.hid (HR1.out.below HD2.out)
  clear hr2 hd hR2 hO2 HD2
  go_wp2_with fail
  refine (deflate_Deflate.calls _ 8 [97, 97, 97, 97, 97, 97, 97, 97] 1 [75, 132, 2, 0] 0 _ (toC (aw4_k3 w2)) (by decide) aw4_3).mono ?_
  rintro e w3 ⟨v3, rfl, hr3, hd⟩
  have HD3 := Lib.hid (show Below w2.heap.size w2 w3 from below_then (below_alloc (Below.refl _ _) _) (below_alloc (Below.refl _ _) _).size hd)
  have HB3 := Lib.hid (show Below w.heap.size w w3 from below_then HB2.out HB2.out.size HD3.out)
  obtain ⟨A3, c3, rfl, hc3, hR3, hO3⟩ := aw4_open hr3
  have HR3 := Lib.hid hR3
  have HR13 := Lib.hid (HR12.out.below HD3.out)
  have HR23 := Lib.hid (HR2.out.below HD3.out)
  clear hr3 hd hR3 hO3 HD3
  go_wp2_with fail
  refine (codicilref01_Same.calls A1 c1 [75, 4, 0] (some ⟨w3.heap.size, 0, none⟩) 3 [75, 4, 0] true _ (toC (HR13.out.below (below_alloc (Below.refl _ _) _))) hc1 (toC (own_reads' (own_lit w3 _ 5 .u8 [75, 4, 0] (Nat.le_refl _) (by simp)))) (by simp) HS1.out).mono ?_
  rintro e w4 ⟨rfl, hd⟩
  obtain ⟨n4, rfl⟩ := hd.out
  have HD4 := Lib.hid (pw_below_drewN (below_alloc (Below.refl w3.heap.size w3) (.cells (nums .u8 [75, 4, 0]).toArray 5)) n4)
  have HB4 := Lib.hid (show Below w.heap.size w _ from below_then HB3.out HB3.out.size HD4.out)
  have HR24 := Lib.hid (HR23.out.below HD4.out)
  have HR34 := Lib.hid (HR3.out.below HD4.out)
  clear hd HD4
  generalize World.drewN _ _ = w4 at *
  go_wp2_with fail
  refine (codicilref01_Same.calls A2 c2 [1, 3, 0, 252, 255, 97, 98, 99] (some ⟨w4.heap.size, 0, none⟩) 8 [1, 3, 0, 252, 255, 97, 98, 99] true _ (toC (HR24.out.below (below_alloc (Below.refl _ _) _))) hc2 (toC (own_reads' (own_lit w4 _ 5 .u8 [1, 3, 0, 252, 255, 97, 98, 99] (Nat.le_refl _) (by simp)))) (by simp) HS2.out).mono ?_
  rintro e w5 ⟨rfl, hd⟩
  obtain ⟨n5, rfl⟩ := hd.out
  have HD5 := Lib.hid (pw_below_drewN (below_alloc (Below.refl w4.heap.size w4) (.cells (nums .u8 [1, 3, 0, 252, 255, 97, 98, 99]).toArray 5)) n5)
  have HB5 := Lib.hid (show Below w.heap.size w _ from below_then HB4.out HB4.out.size HD5.out)
  have HR35 := Lib.hid (HR34.out.below HD5.out)
  clear hd HD5
  generalize World.drewN _ _ = w5 at *
  go_wp2_with fail
  refine (codicilref01_Same.calls A3 c3 [75, 132, 2, 0] (some ⟨w5.heap.size, 0, none⟩) 4 [75, 132, 2, 0] true _ (toC (HR35.out.below (below_alloc (Below.refl _ _) _))) hc3 (toC (own_reads' (own_lit w5 _ 5 .u8 [75, 132, 2, 0] (Nat.le_refl _) (by simp)))) (by simp) HS3.out).mono ?_
  rintro e w6 ⟨rfl, hd⟩
  obtain ⟨n6, rfl⟩ := hd.out
  have HD6 := Lib.hid (pw_below_drewN (below_alloc (Below.refl w5.heap.size w5) (.cells (nums .u8 [75, 132, 2, 0]).toArray 5)) n6)
  have HB6 := Lib.hid (show Below w.heap.size w _ from below_then HB5.out HB5.out.size HD6.out)
  clear hd HD6
  generalize World.drewN _ _ = w6 at *
  go_wp2_with fail
  go_ret
  exact ⟨rfl, HB6.out⟩


-- NOT PRINTED: function 7 (codicillaw04_DeflateBack)

-- NOT PRINTED: function 8 (codicillaw04_DeflateFixed)

/-! ### zlib_Adler: function 24 -/
def zlib_Adler.l0 : Nat → Int → Int → List Int → Int → Int → Option (Int)
  | 0, _, _, _, _, _ => none
  | k + 1, x3, x4, x7, x8, x9 => if x9 < x8 then (if 0 ≤ x9 then (if x9 < (x7.length : Int) then (if (Int.tmod x9 2000) = 1999 then (zlib_Adler.l0 k (Int.tmod (wrap64 (x3 + (wrap64 (rd x7 x9)))) 65521) (Int.tmod (wrap64 (x4 + (wrap64 (x3 + (wrap64 (rd x7 x9)))))) 65521) x7 x8 (wrap64 (x9 + 1))) else (zlib_Adler.l0 k (wrap64 (x3 + (wrap64 (rd x7 x9)))) (wrap64 (x4 + (wrap64 (x3 + (wrap64 (rd x7 x9)))))) x7 x8 (wrap64 (x9 + 1)))) else (none)) else (none)) else (some (Go.bits .or .u32 ((((Int.tmod x4 65521) % 4294967296) * 65536) % 4294967296) ((Int.tmod x3 65521) % 4294967296)))
def zlib_Adler.f (k : Nat) (l0 : List Int) : Option (Int) := zlib_Adler.l0 k 1 0 l0 (l0.length : Int) 0
theorem zlib_Adler.mono_l : ∀ k, (∀ y0 y1 y2 y3 y4, LeO (zlib_Adler.l0 k y0 y1 y2 y3 y4) (zlib_Adler.l0 (k + 1) y0 y1 y2 y3 y4))
  | 0 => fun _ _ _ _ _ r h => by simp [zlib_Adler.l0] at h
  | k + 1 => by
    have ih0 := zlib_Adler.mono_l k
    · intro y0 y1 y2 y3 y4
      unfold zlib_Adler.l0
      repeat' first
      | (with_reducible exact ih0 _ _ _ _ _)
      | (with_reducible exact LeO.refl _)
      | (with_reducible exact LeO.none _)
      | (with_reducible refine LeO.ite ?_ ?_)
      | (with_reducible refine LeO.bind ?_ (fun _ => ?_))
      | exact ih0 _ _ _ _ _
      | exact LeO.none _
      | refine LeO.ite ?_ ?_
      | refine LeO.bind ?_ (fun _ => ?_)
theorem zlib_Adler.mono : ∀ a0 k, LeO (zlib_Adler.f k a0) (zlib_Adler.f (k + 1) a0) := by
  intro a0 k
  have ih0 := zlib_Adler.mono_l k
  unfold zlib_Adler.f
  repeat' first
      | (with_reducible exact ih0 _ _ _ _ _)
      | (with_reducible exact LeO.refl _)
      | (with_reducible exact LeO.none _)
      | (with_reducible refine LeO.ite ?_ ?_)
      | (with_reducible refine LeO.bind ?_ (fun _ => ?_))
      | exact ih0 _ _ _ _ _
      | exact LeO.none _
      | refine LeO.ite ?_ ?_
      | refine LeO.bind ?_ (fun _ => ?_)
set_option maxHeartbeats 8000000 in
set_option maxRecDepth 100000 in
theorem zlib_Adler.calls (k : Nat) (A0 : Option Addr) (c0 : Nat) (l0 : List Int) (r : Int) (w : World) (hr0 : Kd.C (Kd.int .u8) w A0 l0.length l0) (hc0 : l0.length ≤ c0) (h : zlib_Adler.f k l0 = some r) :
    Calls Tryd.prog 24 #[.slice A0 l0.length c0] w fun e w' => e = .returned (.int .u32 r) ∧ Drawn0 w w' := by
  have HR0 := Aside0.mk hr0
  have HC0 := Aside0.mk hc0
  clear hr0 hc0
  have H : (zlib_Adler.l0 k 1 0 l0 (l0.length : Int) 0) = some r := h
  clear h
  have H' := Aside0.mk H
  clear H
  go_enter Tryd.func24, Tryd.ntmps24
  go_wp2
  go_loopg [3, 4, 9] k (fun kq v3 v4 v9 w' => ∃ (x3_1 : Int) (x4_1 : Int) (x9_1 : Int), v3 = .int .i64 x3_1 ∧ v4 = .int .i64 x4_1 ∧ v9 = .int .i64 x9_1 ∧ Aside0 (zlib_Adler.l0 kq x3_1 x4_1 l0 (l0.length : Int) x9_1 = some r) ∧ Aside0 (kq ≤ k) ∧ Drawn0 w w')
  case atStart => exact ⟨(1), (0), (0), (by first | rfl | (simp; done) | (simp [*]; done)), (by first | rfl | (simp; done) | (simp [*]; done)), (by first | rfl | (simp; done) | (simp [*]; done)), H', ⟨Nat.le_refl _⟩, by repeat (first | exact Drawn0.refl _ | apply Drawn0.step)⟩
  case round =>
    clear H'
    obtain ⟨x3_1, x4_1, x9_1, rfl, rfl, rfl, HA, HK1, ⟨m1, rfl⟩⟩ := hrel
    cases gk with
    | zero => exact absurd HA.out (by simp [zlib_Adler.l0])
    | succ k1 =>
      have H := HA.out
      clear HA
      simp only [zlib_Adler.l0] at H
      by_cases c2 : x9_1 < (l0.length : Int)
      · rw [if_pos c2] at H
        have c2b0 : decide (x9_1 < (l0.length : Int)) = true := decide_eq_true c2
        clear c2
        by_cases c3 : 0 ≤ x9_1
        · rw [if_pos c3] at H
          have c3b0 : decide (0 ≤ x9_1) = true := decide_eq_true c3
          clear c3
          by_cases c4 : x9_1 < (l0.length : Int)
          · rw [if_pos c4] at H
            have c4b0 : decide (x9_1 < (l0.length : Int)) = true := decide_eq_true c4
            clear c4
            by_cases c5 : (Int.tmod x9_1 2000) = 1999
            · rw [if_pos c5] at H
              have c5b0 : ((Int.tmod x9_1 2000) == 1999) = true := beq_iff_eq.mpr c5
              have c5b1 : ((Int.tmod x9_1 2000) != 1999) = false := bne_eq_false_iff_eq.mpr c5
              clear c5
              have H' := Aside0.mk H
              clear H
              have p284 : 0 ≤ (x9_1 : Int) := of_decide_eq_true (by first | (with_reducible assumption) | assumption)
              have q284 : x9_1 < (l0.length : Int) := of_decide_eq_true (by first | (with_reducible assumption) | assumption)
              obtain ⟨ad284, e284, hx284_0⟩ := Kd.at_int HR0.out x9_1 p284 q284
              cases e284
              replace p284 := eq_true p284
              replace q284 := eq_true q284
              go_wp2
              go_roundg k1
              case measure => have := HK1.out; omega
              case rel => exact ⟨(Int.tmod (wrap64 (x3_1 + (wrap64 (rd l0 x9_1)))) 65521), (Int.tmod (wrap64 (x4_1 + (wrap64 (x3_1 + (wrap64 (rd l0 x9_1)))))) 65521), (wrap64 (x9_1 + 1)), (by first | rfl | (simp; done) | (simp [*]; done)), (by first | rfl | (simp; done) | (simp [*]; done)), (by first | rfl | (simp; done) | (simp [*]; done)), H', ⟨by have := HK1.out; omega⟩, by repeat (first | exact Drawn0.refl _ | apply Drawn0.step)⟩
            · rw [if_neg c5] at H
              have c5b0 : ((Int.tmod x9_1 2000) == 1999) = false := beq_eq_false_iff_ne.mpr c5
              have c5b1 : ((Int.tmod x9_1 2000) != 1999) = true := bne_iff_ne.mpr c5
              have H' := Aside0.mk H
              clear H
              have p284 : 0 ≤ (x9_1 : Int) := of_decide_eq_true (by first | (with_reducible assumption) | assumption)
              have q284 : x9_1 < (l0.length : Int) := of_decide_eq_true (by first | (with_reducible assumption) | assumption)
              obtain ⟨ad284, e284, hx284_0⟩ := Kd.at_int HR0.out x9_1 p284 q284
              cases e284
              replace p284 := eq_true p284
              replace q284 := eq_true q284
              go_wp2
              go_roundg k1
              case measure => have := HK1.out; omega
              case rel => exact ⟨(wrap64 (x3_1 + (wrap64 (rd l0 x9_1)))), (wrap64 (x4_1 + (wrap64 (x3_1 + (wrap64 (rd l0 x9_1)))))), (wrap64 (x9_1 + 1)), (by first | rfl | (simp; done) | (simp [*]; done)), (by first | rfl | (simp; done) | (simp [*]; done)), (by first | rfl | (simp; done) | (simp [*]; done)), H', ⟨by have := HK1.out; omega⟩, by repeat (first | exact Drawn0.refl _ | apply Drawn0.step)⟩
          · rw [if_neg c4] at H
            exact absurd H (by simp)
        · rw [if_neg c3] at H
          exact absurd H (by simp)
      · rw [if_neg c2] at H
        have c2b0 : decide (x9_1 < (l0.length : Int)) = false := decide_eq_false c2
        clear c2
        obtain rfl := Option.some.inj H
        go_wp2
        go_ret
        exact ⟨by first | rfl | (simp; done) | (simp [*]; done), by repeat (first | exact Drawn0.refl _ | apply Drawn0.step)⟩

/-! ### zlib_Crc: function 25 -/
mutual
def zlib_Crc.l0 : Nat → Int → List Int → Int → Int → Option (Int)
  | 0, _, _, _, _ => none
  | k + 1, x3, x6, x7, x8 => if x8 < x7 then (if 0 ≤ x8 then (if x8 < (x6.length : Int) then (zlib_Crc.l1 k (Go.bits .xor .u32 x3 ((rd x6 x8) % 4294967296)) x6 x7 x8 0) else (none)) else (none)) else (some (Go.bits .xor .u32 4294967295 x3))
def zlib_Crc.l1 : Nat → Int → List Int → Int → Int → Int → Option (Int)
  | 0, _, _, _, _, _ => none
  | k + 1, x3, x6, x7, x8, x16 => if x16 < 8 then (zlib_Crc.l1 k (Go.bits .xor .u32 (x3 / 2) (Go.bits .and .u32 3988292384 ((-(Go.bits .and .u32 x3 1)) % 4294967296))) x6 x7 x8 (wrap64 (x16 + 1))) else (zlib_Crc.l0 k x3 x6 x7 (wrap64 (x8 + 1)))
end
def zlib_Crc.f (k : Nat) (l0 : List Int) : Option (Int) := zlib_Crc.l0 k 4294967295 l0 (l0.length : Int) 0
theorem zlib_Crc.mono_l : ∀ k, (∀ y0 y1 y2 y3, LeO (zlib_Crc.l0 k y0 y1 y2 y3) (zlib_Crc.l0 (k + 1) y0 y1 y2 y3)) ∧ (∀ y0 y1 y2 y3 y4, LeO (zlib_Crc.l1 k y0 y1 y2 y3 y4) (zlib_Crc.l1 (k + 1) y0 y1 y2 y3 y4))
  | 0 => ⟨fun _ _ _ _ r h => by simp [zlib_Crc.l0] at h, fun _ _ _ _ _ r h => by simp [zlib_Crc.l1] at h⟩
  | k + 1 => by
    obtain ⟨ih0, ih1⟩ := zlib_Crc.mono_l k
    refine ⟨?_, ?_⟩
    · intro y0 y1 y2 y3
      unfold zlib_Crc.l0
      repeat' first
      | (with_reducible exact ih0 _ _ _ _)
      | (with_reducible exact ih1 _ _ _ _ _)
      | (with_reducible exact LeO.refl _)
      | (with_reducible exact LeO.none _)
      | (with_reducible refine LeO.ite ?_ ?_)
      | (with_reducible refine LeO.bind ?_ (fun _ => ?_))
      | exact ih0 _ _ _ _
      | exact ih1 _ _ _ _ _
      | exact LeO.none _
      | refine LeO.ite ?_ ?_
      | refine LeO.bind ?_ (fun _ => ?_)
    · intro y0 y1 y2 y3 y4
      unfold zlib_Crc.l1
      repeat' first
      | (with_reducible exact ih0 _ _ _ _)
      | (with_reducible exact ih1 _ _ _ _ _)
      | (with_reducible exact LeO.refl _)
      | (with_reducible exact LeO.none _)
      | (with_reducible refine LeO.ite ?_ ?_)
      | (with_reducible refine LeO.bind ?_ (fun _ => ?_))
      | exact ih0 _ _ _ _
      | exact ih1 _ _ _ _ _
      | exact LeO.none _
      | refine LeO.ite ?_ ?_
      | refine LeO.bind ?_ (fun _ => ?_)
theorem zlib_Crc.mono : ∀ a0 k, LeO (zlib_Crc.f k a0) (zlib_Crc.f (k + 1) a0) := by
  intro a0 k
  obtain ⟨ih0, ih1⟩ := zlib_Crc.mono_l k
  unfold zlib_Crc.f
  repeat' first
      | (with_reducible exact ih0 _ _ _ _)
      | (with_reducible exact ih1 _ _ _ _ _)
      | (with_reducible exact LeO.refl _)
      | (with_reducible exact LeO.none _)
      | (with_reducible refine LeO.ite ?_ ?_)
      | (with_reducible refine LeO.bind ?_ (fun _ => ?_))
      | exact ih0 _ _ _ _
      | exact ih1 _ _ _ _ _
      | exact LeO.none _
      | refine LeO.ite ?_ ?_
      | refine LeO.bind ?_ (fun _ => ?_)
set_option maxHeartbeats 8000000 in
set_option maxRecDepth 100000 in
theorem zlib_Crc.calls (k : Nat) (A0 : Option Addr) (c0 : Nat) (l0 : List Int) (r : Int) (w : World) (hr0 : Kd.C (Kd.int .u8) w A0 l0.length l0) (hc0 : l0.length ≤ c0) (h : zlib_Crc.f k l0 = some r) :
    Calls Tryd.prog 25 #[.slice A0 l0.length c0] w fun e w' => e = .returned (.int .u32 r) ∧ Drawn0 w w' := by
  have HR0 := Aside0.mk hr0
  have HC0 := Aside0.mk hc0
  clear hr0 hc0
  have H : (zlib_Crc.l0 k 4294967295 l0 (l0.length : Int) 0) = some r := h
  clear h
  have H' := Aside0.mk H
  clear H
  go_enter Tryd.func25, Tryd.ntmps25
  go_wp2
  go_loopg [3, 8] k (fun kq v3 v8 w' => ∃ (x3_1 : Int) (x8_1 : Int), v3 = .int .u32 x3_1 ∧ v8 = .int .i64 x8_1 ∧ Aside0 (zlib_Crc.l0 kq x3_1 l0 (l0.length : Int) x8_1 = some r) ∧ Aside0 (kq ≤ k) ∧ Drawn0 w w')
  case atStart => exact ⟨(4294967295), (0), (by first | rfl | (simp; done) | (simp [*]; done)), (by first | rfl | (simp; done) | (simp [*]; done)), H', ⟨Nat.le_refl _⟩, by repeat (first | exact Drawn0.refl _ | apply Drawn0.step)⟩
  case round =>
    clear H'
    obtain ⟨x3_1, x8_1, rfl, rfl, HA, HK1, ⟨m1, rfl⟩⟩ := hrel
    cases gk with
    | zero => exact absurd HA.out (by simp [zlib_Crc.l0])
    | succ k1 =>
      have H := HA.out
      clear HA
      simp only [zlib_Crc.l0] at H
      by_cases c2 : x8_1 < (l0.length : Int)
      · rw [if_pos c2] at H
        have c2b0 : decide (x8_1 < (l0.length : Int)) = true := decide_eq_true c2
        clear c2
        by_cases c3 : 0 ≤ x8_1
        · rw [if_pos c3] at H
          have c3b0 : decide (0 ≤ x8_1) = true := decide_eq_true c3
          clear c3
          by_cases c4 : x8_1 < (l0.length : Int)
          · rw [if_pos c4] at H
            have c4b0 : decide (x8_1 < (l0.length : Int)) = true := decide_eq_true c4
            clear c4
            have H' := Aside0.mk H
            clear H
            have p285 : 0 ≤ (x8_1 : Int) := of_decide_eq_true (by first | (with_reducible assumption) | assumption)
            have q285 : x8_1 < (l0.length : Int) := of_decide_eq_true (by first | (with_reducible assumption) | assumption)
            obtain ⟨ad285, e285, hx285_0⟩ := Kd.at_int HR0.out x8_1 p285 q285
            cases e285
            replace p285 := eq_true p285
            replace q285 := eq_true q285
            go_wp2
            go_loopg [3, 16] k1 (fun kq v3 v16 w' => ∃ (x3_2 : Int) (x16_2 : Int), v3 = .int .u32 x3_2 ∧ v16 = .int .i64 x16_2 ∧ Aside0 (zlib_Crc.l1 kq x3_2 l0 (l0.length : Int) x8_1 x16_2 = some r) ∧ Aside0 (kq ≤ k1) ∧ Drawn0 w w')
            case atStart => exact ⟨(Go.bits .xor .u32 x3_1 ((rd l0 x8_1) % 4294967296)), (0), (by first | rfl | (simp; done) | (simp [*]; done)), (by first | rfl | (simp; done) | (simp [*]; done)), H', ⟨Nat.le_refl _⟩, by repeat (first | exact Drawn0.refl _ | apply Drawn0.step)⟩
            case round =>
              clear H'
              try clear c2
              try clear c2b0
              try clear p2
              try clear q2
              try clear hx2
              try clear c3
              try clear c3b0
              try clear c4
              try clear c4b0
              try clear hx285_0
              try clear p285
              try clear q285
              obtain ⟨x3_2, x16_2, rfl, rfl, HA, HK2, ⟨m2, rfl⟩⟩ := hrel
              cases gk with
              | zero => exact absurd HA.out (by simp [zlib_Crc.l1])
              | succ k2 =>
                have H := HA.out
                clear HA
                simp only [zlib_Crc.l1] at H
                by_cases c5 : x16_2 < 8
                · rw [if_pos c5] at H
                  have c5b0 : decide (x16_2 < 8) = true := decide_eq_true c5
                  clear c5
                  have H' := Aside0.mk H
                  clear H
                  go_wp2
                  go_roundg k2
                  case measure => have := HK1.out; have := HK2.out; omega
                  case rel => exact ⟨(Go.bits .xor .u32 (x3_2 / 2) (Go.bits .and .u32 3988292384 ((-(Go.bits .and .u32 x3_2 1)) % 4294967296))), (wrap64 (x16_2 + 1)), (by first | rfl | (simp; done) | (simp [*]; done)), (by first | rfl | (simp; done) | (simp [*]; done)), H', ⟨by have := HK1.out; have := HK2.out; omega⟩, by repeat (first | exact Drawn0.refl _ | apply Drawn0.step)⟩
                · rw [if_neg c5] at H
                  have c5b0 : decide (x16_2 < 8) = false := decide_eq_false c5
                  clear c5
                  have H' := Aside0.mk H
                  clear H
                  go_wp2
                  go_roundg k2
                  case measure => have := HK1.out; have := HK2.out; omega
                  case rel => exact ⟨(x3_2), (wrap64 (x8_1 + 1)), (by first | rfl | (simp; done) | (simp [*]; done)), (by first | rfl | (simp; done) | (simp [*]; done)), H', ⟨by have := HK1.out; have := HK2.out; omega⟩, by repeat (first | exact Drawn0.refl _ | apply Drawn0.step)⟩
          · rw [if_neg c4] at H
            exact absurd H (by simp)
        · rw [if_neg c3] at H
          exact absurd H (by simp)
      · rw [if_neg c2] at H
        have c2b0 : decide (x8_1 < (l0.length : Int)) = false := decide_eq_false c2
        clear c2
        obtain rfl := Option.some.inj H
        go_wp2
        go_ret
        exact ⟨by first | rfl | (simp; done) | (simp [*]; done), by repeat (first | exact Drawn0.refl _ | apply Drawn0.step)⟩

/-! ### codicillaw05_awake: function 21 -/
def codicillaw05_awake.f : Option (Bool) := some true
theorem awake5_1 : zlib_Adler.f 20 [97, 98, 99] = some 38600999 := by decide +kernel
theorem awake5_2 : zlib_Crc.f 300 [49, 50, 51, 52, 53, 54, 55, 56, 57] = some 3421780262 := by decide +kernel
theorem awake5_3 (W : World) : ReadsInt (W.alloc (.cells #[.int .u8 97, .int .u8 98, .int .u8 99] 5 (3, 4))) .u8 (some ⟨W.heap.size, 0, none⟩) 3 [97, 98, 99] := const_reads W 5 [97, 98, 99] _ _ rfl (by decide)
theorem awake5_4 (W : World) : ReadsInt (W.alloc (.cells #[.int .u8 49, .int .u8 50, .int .u8 51, .int .u8 52, .int .u8 53, .int .u8 54, .int .u8 55, .int .u8 56, .int .u8 57] 5 (9, 10))) .u8 (some ⟨W.heap.size, 0, none⟩) 9 [49, 50, 51, 52, 53, 54, 55, 56, 57] := const_reads W 5 [49, 50, 51, 52, 53, 54, 55, 56, 57] _ _ rfl (by decide)
set_option maxHeartbeats 1000000 in
theorem codicillaw05_awake.calls (r : Bool) (w : World) (h : codicillaw05_awake.f = some r) :
    Calls Tryd.prog 21 #[] w fun e w' => e = .returned (.bool r) ∧ Below w.heap.size w w' := by
  obtain rfl := Option.some.inj h
  have kc := fun (w : World) (C : Array Value) (n c : Nat) => Lib.run_convert_bytes_const (P := Tryd.prog) w 22 5 C n c Tryd.underlying22 Tryd.underlying5
  go_enter Tryd.func21, Tryd.ntmps21
  go_wp2_with fail
  refine (zlib_Adler.calls 20 _ 3 [97, 98, 99] _ _ (toC (awake5_3 w)) (by decide) awake5_1).mono ?_
  rintro e w1 ⟨rfl, hd⟩
  have HB1 := Lib.hid (show Below w.heap.size w w1 from below_then (below_alloc (Below.refl _ _) _) (below_alloc (Below.refl _ _) _).size hd.below)
  clear hd
  go_wp2_with fail
  refine (zlib_Crc.calls 300 _ 9 [49, 50, 51, 52, 53, 54, 55, 56, 57] _ _ (toC (awake5_4 w1)) (by decide) awake5_2).mono ?_
  rintro e w2 ⟨rfl, hd⟩
  have HB2 := Lib.hid (show Below w.heap.size w w2 from below_then (below_alloc HB1.out _) (below_alloc HB1.out _).size hd.below)
  clear hd
  go_wp2_with fail
  go_ret
  exact ⟨rfl, HB2.out⟩


/-! ### zlib_Wrap: function 22 -/
def zlib_Wrap.f (k : Nat) (l0 : List Int) (a1 : Int) : Option (List Int × Int) := (deflate_Deflate.f l0 a1).bind fun bt286 => (if bt286.2 = 0 then ((zlib_Adler.f k l0).bind fun t290 => ((some (([120, 1] : List Int) : List Int)).bind fun y291 => (if y291.length + bt286.1.length < 140737488355328 then ((some (y291 ++ bt286.1 : List Int)).bind fun y294 => ((some (([(t290 / 16777216) % 256, (t290 / 65536) % 256, (t290 / 256) % 256, (t290) % 256] : List Int) : List Int)).bind fun y297 => (if y294.length + y297.length < 140737488355328 then (some ((y294 ++ y297), 0)) else (none)))) else (none)))) else (some (([] : List Int), bt286.2)))
theorem zlib_Wrap.mono : ∀ a0 a1 k, LeO (zlib_Wrap.f k a0 a1) (zlib_Wrap.f (k + 1) a0 a1) := by
  intro a0 a1 k
  unfold zlib_Wrap.f
  repeat' first
      | (with_reducible exact zlib_Adler.mono _ _)
      | (with_reducible exact LeO.refl _)
      | (with_reducible exact LeO.none _)
      | (with_reducible refine LeO.ite ?_ ?_)
      | (with_reducible refine LeO.bind ?_ (fun _ => ?_))
      | exact zlib_Adler.mono _ _
      | exact LeO.none _
      | refine LeO.ite ?_ ?_
      | refine LeO.bind ?_ (fun _ => ?_)
set_option maxHeartbeats 8000000 in
set_option maxRecDepth 100000 in
theorem zlib_Wrap.calls (k : Nat) (A0 : Option Addr) (c0 : Nat) (l0 : List Int) (a1 : Int) (r1 : List Int) (r2 : Int) (w : World) (hr0 : Kd.C (Kd.int .u8) w A0 l0.length l0) (hc0 : l0.length ≤ c0) (h : zlib_Wrap.f k l0 a1 = some (r1, r2)) :
    Calls Tryd.prog 22 #[.slice A0 l0.length c0, .int .i64 a1] w fun e w' => ∃ v0_ : Value, e = .returned (.tuple #[v0_, .int .i64 r2]) ∧ Kd.R (Kd.int .u8) 5 w' w.heap.size (fun _ => True) v0_ r1 ∧ Below w.heap.size w w' := by
  have HR0 := Aside0.mk hr0
  have HC0 := Aside0.mk hc0
  clear hr0 hc0
  have HB := Aside0.mk (Below.refl w.heap.size w)
  have H : ((deflate_Deflate.f l0 a1).bind fun bt286 => (if bt286.2 = 0 then ((zlib_Adler.f k l0).bind fun t290 => ((some (([120, 1] : List Int) : List Int)).bind fun y291 => (if y291.length + bt286.1.length < 140737488355328 then ((some (y291 ++ bt286.1 : List Int)).bind fun y294 => ((some (([(t290 / 16777216) % 256, (t290 / 65536) % 256, (t290 / 256) % 256, (t290) % 256] : List Int) : List Int)).bind fun y297 => (if y294.length + y297.length < 140737488355328 then (some ((y294 ++ y297), 0)) else (none)))) else (none)))) else (some (([] : List Int), bt286.2)))) = some (r1, r2) := h
  clear h
  replace H := Option.bind_eq_some_iff.mp H
  obtain ⟨⟨t286, t287⟩, A30, H⟩ := H
  replace H : (if t287 = 0 then ((zlib_Adler.f k l0).bind fun t290 => ((some (([120, 1] : List Int) : List Int)).bind fun y291 => (if y291.length + t286.length < 140737488355328 then ((some (y291 ++ t286 : List Int)).bind fun y294 => ((some (([(t290 / 16777216) % 256, (t290 / 65536) % 256, (t290 / 256) % 256, (t290) % 256] : List Int) : List Int)).bind fun y297 => (if y294.length + y297.length < 140737488355328 then (some ((y294 ++ y297), 0)) else (none)))) else (none)))) else (some (([] : List Int), t287))) = some (r1, r2) := H
  have A3 := Aside0.mk A30
  clear A30
  by_cases c4 : t287 = 0
  · rw [if_pos c4] at H
    have c4b0 : (t287 == 0) = true := beq_iff_eq.mpr c4
    have c4b1 : (t287 != 0) = false := bne_eq_false_iff_eq.mpr c4
    clear c4
    replace H := Option.bind_eq_some_iff.mp H
    obtain ⟨t290, A50, H⟩ := H
    replace H : ((some (([120, 1] : List Int) : List Int)).bind fun y291 => (if y291.length + t286.length < 140737488355328 then ((some (y291 ++ t286 : List Int)).bind fun y294 => ((some (([(t290 / 16777216) % 256, (t290 / 65536) % 256, (t290 / 256) % 256, (t290) % 256] : List Int) : List Int)).bind fun y297 => (if y294.length + y297.length < 140737488355328 then (some ((y294 ++ y297), 0)) else (none)))) else (none))) = some (r1, r2) := H
    have A5 := Aside0.mk A50
    clear A50
    obtain ⟨y291, hy291⟩ : ∃ y_ : List Int, y_ = (([120, 1] : List Int)) := ⟨_, rfl⟩
    replace H : (if y291.length + t286.length < 140737488355328 then ((some (y291 ++ t286 : List Int)).bind fun y294 => ((some (([(t290 / 16777216) % 256, (t290 / 65536) % 256, (t290 / 256) % 256, (t290) % 256] : List Int) : List Int)).bind fun y297 => (if y294.length + y297.length < 140737488355328 then (some ((y294 ++ y297), 0)) else (none)))) else (none)) = some (r1, r2) := by first | (rw [hy291]; with_reducible exact H) | (have H2_ := (Option.bind_some _ _).symm.trans H; rw [hy291]; with_reducible exact H2_) | (have H2_ := (Option.bind_some _ _).symm.trans H; with_reducible exact H2_) | with_reducible exact H | (rw [hy291]; exact H) | exact H
    have Ny291 := Aside0.mk hy291
    clear hy291
    by_cases c6 : y291.length + t286.length < 140737488355328
    · rw [if_pos c6] at H
      have LMc6 := Aside0.mk c6
      clear c6
      obtain ⟨y294, hy294⟩ : ∃ y_ : List Int, y_ = (y291 ++ t286) := ⟨_, rfl⟩
      replace H : ((some (([(t290 / 16777216) % 256, (t290 / 65536) % 256, (t290 / 256) % 256, (t290) % 256] : List Int) : List Int)).bind fun y297 => (if y294.length + y297.length < 140737488355328 then (some ((y294 ++ y297), 0)) else (none))) = some (r1, r2) := by first | (rw [hy294]; with_reducible exact H) | (have H2_ := (Option.bind_some _ _).symm.trans H; rw [hy294]; with_reducible exact H2_) | (have H2_ := (Option.bind_some _ _).symm.trans H; with_reducible exact H2_) | with_reducible exact H | (rw [hy294]; exact H) | exact H
      have Ny294 := Aside0.mk hy294
      clear hy294
      obtain ⟨y297, hy297⟩ : ∃ y_ : List Int, y_ = (([(t290 / 16777216) % 256, (t290 / 65536) % 256, (t290 / 256) % 256, (t290) % 256] : List Int)) := ⟨_, rfl⟩
      replace H : (if y294.length + y297.length < 140737488355328 then (some ((y294 ++ y297), 0)) else (none)) = some (r1, r2) := by first | (rw [hy297]; with_reducible exact H) | (have H2_ := (Option.bind_some _ _).symm.trans H; rw [hy297]; with_reducible exact H2_) | (have H2_ := (Option.bind_some _ _).symm.trans H; with_reducible exact H2_) | with_reducible exact H | (rw [hy297]; exact H) | exact H
      have Ny297 := Aside0.mk hy297
      clear hy297
      by_cases c7 : y294.length + y297.length < 140737488355328
      · rw [if_pos c7] at H
        have LMc7 := Aside0.mk c7
        clear c7
        obtain ⟨y300, hy300⟩ : ∃ y_ : List Int, y_ = (y294 ++ y297) := ⟨_, rfl⟩
        replace H : (some (y300, 0)) = some (r1, r2) := by first | (rw [hy300]; with_reducible exact H) | (have H2_ := (Option.bind_some _ _).symm.trans H; rw [hy300]; with_reducible exact H2_) | (have H2_ := (Option.bind_some _ _).symm.trans H; with_reducible exact H2_) | with_reducible exact H | (rw [hy300]; exact H) | exact H
        have Ny300 := Aside0.mk hy300
        clear hy300
        simp only [Option.some.injEq, Prod.mk.injEq] at H
        obtain ⟨rfl, rfl⟩ := H
        go_enter Tryd.func22, Tryd.ntmps22
        go_wp2_with (first | ((with_reducible refine gate_callee (f := 20) rfl ?_); refine goesL_ (some 13) rfl rfl Tryd.func20 (by kernel_rfl) rfl #[.slice A0 l0.length c0, .int .i64 a1] rfl (by (try simp only [List.map_toArray, List.map_cons, List.map_nil]); first | done | rfl | (simp only [List.length_drop, List.length_take]; rfl)) ?_; (with_reducible refine (deflate_Deflate.calls _ _ l0 a1 t286 t287 _ ?side1 ?side2 A3.out).mono ?_); (case side1 => repeat (first | exact HR0.out | (with_reducible refine Kd.C_alloc ?_ _) | (with_reducible refine Kd.C_drewN ?_ _) | (with_reducible refine Kd.C_drew ?_))); (case side2 => exact HC0.out); rintro e w8 ⟨v288, rfl, ho0, hb⟩; refine ⟨_, rfl, ?_⟩; have n0_ := Aside0.mk (Kd.R_lower ho0 (below_size (by repeat (first | (with_reducible first | exact HB.out | apply below_alloc | apply pw_below_drewN | apply below_drew1) | exact HB.out)))); have n1_ := Aside0.mk (below_step (by repeat (first | (with_reducible first | exact HB.out | apply below_alloc | apply pw_below_drewN | apply below_drew1) | exact HB.out)) hb); clear HB; have HO289 := n0_; have HB := n1_; clear n0_ n1_; (try clear hb); (try clear hb2); (try clear hk); (try clear hi); (try clear ho0)) | ((with_reducible refine gate_callee (f := 24) rfl ?_); refine goesL_ (some 20) rfl rfl Tryd.func24 (by kernel_rfl) rfl #[.slice A0 l0.length c0] rfl (by (try simp only [List.map_toArray, List.map_cons, List.map_nil]); first | done | rfl | (simp only [List.length_drop, List.length_take]; rfl)) ?_; (with_reducible refine (zlib_Adler.calls k _ _ l0 t290 _ ?side1 ?side2 A5.out).mono ?_); (case side1 => repeat (first | exact (Kd.C_below HR0.out HB.out) | (with_reducible refine Kd.C_alloc ?_ _) | (with_reducible refine Kd.C_drewN ?_ _) | (with_reducible refine Kd.C_drew ?_))); (case side2 => exact HC0.out); rintro e w' ⟨rfl, ⟨nd, rfl⟩⟩; refine ⟨_, rfl, ?_⟩) | ((with_reducible refine gate_dst (N := 21) rfl ?_); refine Kd.R_lit (Kd.int .u8) _ 5 ?hg (N := 21) ?hd (xs := ([120, 1] : List Int)) (inner := [.int .u8 120, .int .u8 1]) (ok := fun _ => True) (okp := fun _ => True) ?hr ?hp (fun _ hk => hk) trivial (Below.refl _ _) (Nat.le_refl _) (by simp) ?_; (case hd => rfl); (case hg => rfl); (case hr => first | (go_simp; done) | (go_simp; rfl)); (case hp => exact (Reps.one (show Kd.M (Kd.int .u8) _ _ _ 120 [.int .u8 120] from rfl) (Reps.one (show Kd.M (Kd.int .u8) _ _ _ 1 [.int .u8 1] from rfl) (Reps.none _ _)))); intro v292 w9 ho10 hb hg_ hnew_; clear hg_ hnew_; (first | rw [← Ny291.out] at ho10 | (simp only [Int.reduceToNat] at ho10; rw [← Ny291.out] at ho10)); have n0_ := Aside0.mk (Kd.R_elder' (by (with_reducible repeat (first | apply Kd.R_alloc | apply Kd.R_drewN | apply Kd.R_drew)); exact HO289.out) (Kd.R_base ho10) hb); have n1_ := Aside0.mk (Kd.R_lower (Kd.R_new' ho10 (Kd.R_lt (by (with_reducible repeat (first | apply Kd.R_alloc | apply Kd.R_drewN | apply Kd.R_drew)); exact HO289.out))) (below_size (by repeat (first | (with_reducible first | exact HB.out | apply below_alloc | apply pw_below_drewN | apply below_drew1) | exact HB.out)))); have n2_ := Aside0.mk (below_step (by repeat (first | (with_reducible first | exact HB.out | apply below_alloc | apply pw_below_drewN | apply below_drew1) | exact HB.out)) hb); clear HO289; clear HB; have HO289 := n0_; have HO293 := n1_; have HB := n2_; clear n0_ n1_ n2_; clear hb ho10; obtain ⟨Ao12, co12, eo12⟩ := Kd.R_slice HO289.out; subst eo12) | ((with_reducible refine gate_builtin (b := .append) (xs := #[.tmp 21, .tmp 22]) rfl ?_); at_builtin; refine Kd.R_append_rows (Kd.int .u8) (w0 := w) w.heap.size rfl (.tmp 21) (.tmp 22) 22 5 (.int .u8 0) 1 rfl Tryd.underlying22 info5 rfl (by decide) (by omega) v292 y291 t286 _ _ _ (fun k_ => some k_ ≠ (.slice Ao12 t286.length co12 : Value).ownBlock) (fun _ => False) rfl rfl ?aO ?aR (fun _ _ h => h) (fun _ h => h.elim) ?aF ?aB ?aS ?aL ?_; (case aR => repeat (first | exact (Kd.R_reads' HO289.out).2.2 | (with_reducible refine Kd.C_alloc ?_ _) | (with_reducible refine Kd.C_drewN ?_ _) | (with_reducible refine Kd.C_drew ?_))); (case aB => exact (by repeat (first | (with_reducible first | exact HB.out | apply below_alloc | apply pw_below_drewN | apply below_drew1) | exact HB.out))); (case aF => exact (fun k_ hk => Kd.fresh' (Kd.R_lt (by (with_reducible repeat (first | apply Kd.R_alloc | apply Kd.R_drewN | apply Kd.R_drew)); exact HO289.out)) k_ hk)); (case aO => exact (by (with_reducible repeat (first | apply Kd.R_alloc | apply Kd.R_drewN | apply Kd.R_drew)); exact Kd.R_mono HO293.out (fun _ hk => hk.2))); (case aS => exact (below_size (by repeat (first | (with_reducible first | exact HB.out | apply below_alloc | apply pw_below_drewN | apply below_drew1) | exact HB.out)))); (case aL => have := LMc6.out; omega); intro v295 w11 ho hb hg hat; rw [← Ny294.out] at ho; have n0_ := Aside0.mk (Kd.R_after (ok := (fun _ => True)) (by (with_reducible repeat (first | apply Kd.R_alloc | apply Kd.R_drewN | apply Kd.R_drew)); exact HO289.out) hg hat); have n1_ := Aside0.mk (hb); have n2_ := Aside0.mk (ho); clear HO289; clear HB; clear HO293; have HO289 := n0_; have HB := n1_; have HO296 := n2_; clear n0_ n1_ n2_; clear ho hb hg hat) | ((with_reducible refine gate_dst (N := 36) rfl ?_); refine Kd.R_lit (Kd.int .u8) _ 5 ?hg (N := 36) ?hd (xs := ([(t290 / 16777216) % 256, (t290 / 65536) % 256, (t290 / 256) % 256, (t290) % 256] : List Int)) (inner := [.int .u8 ((t290 / 16777216) % 256), .int .u8 ((t290 / 65536) % 256), .int .u8 ((t290 / 256) % 256), .int .u8 ((t290) % 256)]) (ok := fun _ => True) (okp := fun _ => True) ?hr ?hp (fun _ hk => hk) trivial (Below.refl _ _) (Nat.le_refl _) (by simp) ?_; (case hd => rfl); (case hg => rfl); (case hr => first | (go_simp; done) | (go_simp; rfl)); (case hp => exact (Reps.one (show Kd.M (Kd.int .u8) _ _ _ ((t290 / 16777216) % 256) [.int .u8 ((t290 / 16777216) % 256)] from rfl) (Reps.one (show Kd.M (Kd.int .u8) _ _ _ ((t290 / 65536) % 256) [.int .u8 ((t290 / 65536) % 256)] from rfl) (Reps.one (show Kd.M (Kd.int .u8) _ _ _ ((t290 / 256) % 256) [.int .u8 ((t290 / 256) % 256)] from rfl) (Reps.one (show Kd.M (Kd.int .u8) _ _ _ ((t290) % 256) [.int .u8 ((t290) % 256)] from rfl) (Reps.none _ _)))))); intro v298 w13 ho14 hb hg_ hnew_; clear hg_ hnew_; (first | rw [← Ny297.out] at ho14 | (simp only [Int.reduceToNat] at ho14; rw [← Ny297.out] at ho14)); have n0_ := Aside0.mk (Kd.R_elder' (by (with_reducible repeat (first | apply Kd.R_alloc | apply Kd.R_drewN | apply Kd.R_drew)); exact HO289.out) (Kd.R_base ho14) hb); have n1_ := Aside0.mk (Kd.R_elder' (by (with_reducible repeat (first | apply Kd.R_alloc | apply Kd.R_drewN | apply Kd.R_drew)); exact HO296.out) (Kd.R_base ho14) hb); have n2_ := Aside0.mk (Kd.R_lower (Kd.R_new' (Kd.R_new' ho14 (Kd.R_lt (by (with_reducible repeat (first | apply Kd.R_alloc | apply Kd.R_drewN | apply Kd.R_drew)); exact HO289.out))) (Kd.R_lt (by (with_reducible repeat (first | apply Kd.R_alloc | apply Kd.R_drewN | apply Kd.R_drew)); exact HO296.out))) (below_size (by repeat (first | (with_reducible first | exact HB.out | apply below_alloc | apply pw_below_drewN | apply below_drew1) | exact HB.out)))); have n3_ := Aside0.mk (below_step (by repeat (first | (with_reducible first | exact HB.out | apply below_alloc | apply pw_below_drewN | apply below_drew1) | exact HB.out)) hb); clear HO289; clear HO296; clear HB; have HO289 := n0_; have HO296 := n1_; have HO299 := n2_; have HB := n3_; clear n0_ n1_ n2_ n3_; clear hb ho14; obtain ⟨Ao16, co16, eo16⟩ := Kd.R_slice HO299.out; subst eo16) | ((with_reducible refine gate_builtin (b := .append) (xs := #[.tmp 24, .tmp 36]) rfl ?_); at_builtin; refine Kd.R_append_rows (Kd.int .u8) (w0 := w) w.heap.size rfl (.tmp 24) (.tmp 36) 22 5 (.int .u8 0) 1 rfl Tryd.underlying22 info5 rfl (by decide) (by omega) v295 y294 y297 _ _ _ (fun k_ => some k_ ≠ (.slice Ao12 t286.length co12 : Value).ownBlock ∧ some k_ ≠ (.slice Ao16 y297.length co16 : Value).ownBlock) (fun _ => False) rfl rfl ?aO ?aR (fun _ _ h => h) (fun _ h => h.elim) ?aF ?aB ?aS ?aL ?_; (case aR => repeat (first | exact (Kd.R_reads' HO299.out).2.2 | (with_reducible refine Kd.C_alloc ?_ _) | (with_reducible refine Kd.C_drewN ?_ _) | (with_reducible refine Kd.C_drew ?_))); (case aB => exact (by repeat (first | (with_reducible first | exact HB.out | apply below_alloc | apply pw_below_drewN | apply below_drew1) | exact HB.out))); (case aF => exact (fun k_ hk => ⟨Kd.fresh' (Kd.R_lt (by (with_reducible repeat (first | apply Kd.R_alloc | apply Kd.R_drewN | apply Kd.R_drew)); exact HO289.out)) k_ hk, Kd.fresh' (Kd.R_lt (by (with_reducible repeat (first | apply Kd.R_alloc | apply Kd.R_drewN | apply Kd.R_drew)); exact HO299.out)) k_ hk⟩)); (case aO => exact (by (with_reducible repeat (first | apply Kd.R_alloc | apply Kd.R_drewN | apply Kd.R_drew)); exact HO296.out)); (case aS => exact (below_size (by repeat (first | (with_reducible first | exact HB.out | apply below_alloc | apply pw_below_drewN | apply below_drew1) | exact HB.out)))); (case aL => have := LMc7.out; omega); intro v301 w15 ho hb hg hat; rw [← Ny300.out] at ho; have n0_ := Aside0.mk (Kd.R_after (ok := (fun k_ => some k_ ≠ (.slice Ao16 y297.length co16 : Value).ownBlock)) (by (with_reducible repeat (first | apply Kd.R_alloc | apply Kd.R_drewN | apply Kd.R_drew)); exact Kd.R_mono HO289.out (fun _ hk => ⟨hk.2, hk.1.2⟩)) hg hat); have n1_ := Aside0.mk (Kd.R_after (ok := (fun k_ => some k_ ≠ (.slice Ao12 t286.length co12 : Value).ownBlock)) (by (with_reducible repeat (first | apply Kd.R_alloc | apply Kd.R_drewN | apply Kd.R_drew)); exact Kd.R_mono HO299.out (fun _ hk => ⟨hk.1.2, hk.2⟩)) hg hat); have n2_ := Aside0.mk (hb); have n3_ := Aside0.mk (ho); clear HO289; clear HO299; clear HB; clear HO296; have HO289 := n0_; have HO299 := n1_; have HB := n2_; have HO302 := n3_; clear n0_ n1_ n2_ n3_; clear ho hb hg hat))
        go_ret2
        exact ⟨_, by first | rfl | (simp [errW_none, errW_some] <;> rfl) | (simp [*, errW_none, errW_some] <;> rfl), by (with_reducible repeat (first | apply Kd.R_alloc | apply Kd.R_drewN | apply Kd.R_drew)); exact Kd.R_mono HO302.out (fun _ hk => trivial), by repeat (first | (with_reducible first | exact HB.out | apply below_alloc | apply pw_below_drewN | apply below_drew1) | exact HB.out)⟩
      · rw [if_neg c7] at H
        exact absurd H (by simp)
    · rw [if_neg c6] at H
      exact absurd H (by simp)
  · rw [if_neg c4] at H
    have c4b0 : (t287 == 0) = false := beq_eq_false_iff_ne.mpr c4
    have c4b1 : (t287 != 0) = true := bne_iff_ne.mpr c4
    simp only [Option.some.injEq, Prod.mk.injEq] at H
    obtain ⟨rfl, rfl⟩ := H
    go_enter Tryd.func22, Tryd.ntmps22
    go_wp2_with (first | ((with_reducible refine gate_callee (f := 20) rfl ?_); refine goesL_ (some 13) rfl rfl Tryd.func20 (by kernel_rfl) rfl #[.slice A0 l0.length c0, .int .i64 a1] rfl (by (try simp only [List.map_toArray, List.map_cons, List.map_nil]); first | done | rfl | (simp only [List.length_drop, List.length_take]; rfl)) ?_; (with_reducible refine (deflate_Deflate.calls _ _ l0 a1 t286 t287 _ ?side1 ?side2 A3.out).mono ?_); (case side1 => repeat (first | exact HR0.out | (with_reducible refine Kd.C_alloc ?_ _) | (with_reducible refine Kd.C_drewN ?_ _) | (with_reducible refine Kd.C_drew ?_))); (case side2 => exact HC0.out); rintro e w17 ⟨v288, rfl, ho0, hb⟩; refine ⟨_, rfl, ?_⟩; have n0_ := Aside0.mk (Kd.R_lower ho0 (below_size (by repeat (first | (with_reducible first | exact HB.out | apply below_alloc | apply pw_below_drewN | apply below_drew1) | exact HB.out)))); have n1_ := Aside0.mk (below_step (by repeat (first | (with_reducible first | exact HB.out | apply below_alloc | apply pw_below_drewN | apply below_drew1) | exact HB.out)) hb); clear HB; have HO289 := n0_; have HB := n1_; clear n0_ n1_; (try clear hb); (try clear hb2); (try clear hk); (try clear hi); (try clear ho0)))
    go_ret2
    exact ⟨_, by first | rfl | (simp [errW_none, errW_some] <;> rfl) | (simp [*, errW_none, errW_some] <;> rfl), by first | exact Kd.R_nil _ _ _ _ _ | exact Kd.N_nil _ _ _ _ _ | exact Kd.V_nil _ _ _ _ _ | exact Kd.Q_nil _ _ _ _ _ | exact Kd.S_nil _ _ _ _ _, by repeat (first | (with_reducible first | exact HB.out | apply below_alloc | apply pw_below_drewN | apply below_drew1) | exact HB.out)⟩

/-! ### zlib_head: function 38 -/
def zlib_head.f (a0 : Int) (a1 : Int) : Option (Bool) := if (Go.bits .and .u8 a0 15) = 8 then (if (a0 / 16) ≤ 7 then (if (Int.tmod (Go.bits .or .i64 (wrap64 ((wrap64 (a0)) * 256)) (wrap64 (a1))) 31) = 0 then (some ((Go.bits .and .u8 a1 32) == 0)) else (some false)) else (some false)) else (some false)
set_option maxHeartbeats 8000000 in
set_option maxRecDepth 100000 in
theorem zlib_head.calls (a0 : Int) (a1 : Int) (r : Bool) (w : World) (h : zlib_head.f a0 a1 = some r) :
    Calls Tryd.prog 38 #[.int .u8 a0, .int .u8 a1] w fun e w' => e = .returned (.bool r) ∧ Drawn0 w w' := by
  have H : (if (Go.bits .and .u8 a0 15) = 8 then (if (a0 / 16) ≤ 7 then (if (Int.tmod (Go.bits .or .i64 (wrap64 ((wrap64 (a0)) * 256)) (wrap64 (a1))) 31) = 0 then (some ((Go.bits .and .u8 a1 32) == 0)) else (some false)) else (some false)) else (some false)) = some r := h
  clear h
  by_cases c3 : (Go.bits .and .u8 a0 15) = 8
  · rw [if_pos c3] at H
    have c3b0 : ((Go.bits .and .u8 a0 15) == 8) = true := beq_iff_eq.mpr c3
    have c3b1 : ((Go.bits .and .u8 a0 15) != 8) = false := bne_eq_false_iff_eq.mpr c3
    clear c3
    by_cases c4 : (a0 / 16) ≤ 7
    · rw [if_pos c4] at H
      have c4b0 : decide ((a0 / 16) ≤ 7) = true := decide_eq_true c4
      clear c4
      by_cases c5 : (Int.tmod (Go.bits .or .i64 (wrap64 ((wrap64 (a0)) * 256)) (wrap64 (a1))) 31) = 0
      · rw [if_pos c5] at H
        have c5b0 : ((Int.tmod (Go.bits .or .i64 (wrap64 ((wrap64 (a0)) * 256)) (wrap64 (a1))) 31) == 0) = true := beq_iff_eq.mpr c5
        have c5b1 : ((Int.tmod (Go.bits .or .i64 (wrap64 ((wrap64 (a0)) * 256)) (wrap64 (a1))) 31) != 0) = false := bne_eq_false_iff_eq.mpr c5
        clear c5
        obtain rfl := Option.some.inj H
        go_enter Tryd.func38, Tryd.ntmps38
        go_wp2
        go_ret
        exact ⟨by first | rfl | (simp; done) | (simp [*]; done), by repeat (first | exact Drawn0.refl _ | apply Drawn0.step)⟩
      · rw [if_neg c5] at H
        have c5b0 : ((Int.tmod (Go.bits .or .i64 (wrap64 ((wrap64 (a0)) * 256)) (wrap64 (a1))) 31) == 0) = false := beq_eq_false_iff_ne.mpr c5
        have c5b1 : ((Int.tmod (Go.bits .or .i64 (wrap64 ((wrap64 (a0)) * 256)) (wrap64 (a1))) 31) != 0) = true := bne_iff_ne.mpr c5
        obtain rfl := Option.some.inj H
        go_enter Tryd.func38, Tryd.ntmps38
        go_wp2
        go_ret
        exact ⟨by first | rfl | (simp; done) | (simp [*]; done), by repeat (first | exact Drawn0.refl _ | apply Drawn0.step)⟩
    · rw [if_neg c4] at H
      have c4b0 : decide ((a0 / 16) ≤ 7) = false := decide_eq_false c4
      clear c4
      obtain rfl := Option.some.inj H
      go_enter Tryd.func38, Tryd.ntmps38
      go_wp2
      go_ret
      exact ⟨by first | rfl | (simp; done) | (simp [*]; done), by repeat (first | exact Drawn0.refl _ | apply Drawn0.step)⟩
  · rw [if_neg c3] at H
    have c3b0 : ((Go.bits .and .u8 a0 15) == 8) = false := beq_eq_false_iff_ne.mpr c3
    have c3b1 : ((Go.bits .and .u8 a0 15) != 8) = true := bne_iff_ne.mpr c3
    obtain rfl := Option.some.inj H
    go_enter Tryd.func38, Tryd.ntmps38
    go_wp2
    go_ret
    exact ⟨by first | rfl | (simp; done) | (simp [*]; done), by repeat (first | exact Drawn0.refl _ | apply Drawn0.step)⟩

-- NOT PRINTED: function 23 (zlib_Unwrap)

-- NOT PRINTED: function 9 (codicillaw05_ZlibBack)

-- NOT PRINTED: function 10 (codicillaw05_ZlibFixed)

/-! ### codicilref01_Spare: function 17 -/
set_option maxHeartbeats 1000000 in
theorem spare_calls (A : Option Addr) (c : Nat) (l : List Int) (w : World) (hl : ReadsInt w .u8 A l.length l) (hn : l.length + 8 ≤ 140737488355328) :
    Calls Tryd.prog 17 #[.slice A l.length c] w fun e w' => ∃ g cap, e = .returned (.tuple #[.slice (some ⟨g, 0, none⟩) l.length cap, .slice (some ⟨g, 0, none⟩) (l.length + 4) cap]) ∧ Bs 5 w' w.heap.size (.slice (some ⟨g, 0, none⟩) (l.length + 4) cap) (l ++ [41, 42, 43, 44]) ∧ Below w.heap.size w w' := by
  have HL := Lib.hid hl
  clear hl
  have hmk := make_room (P := Tryd.prog) 22 5 (.int .u8 0) 1 Tryd.underlying22 infoU8 rfl ((l.length : Int) + 4) (l.length + 4) (by omega) (by omega) (by omega)
  go_enter Tryd.func17, Tryd.ntmps17
  go_wp2_with (first | (at_builtin; refine brow_append_row' (w0 := w) w.heap.size rfl (.tmp 9) (.tmp 10) 22 5 rfl Tryd.underlying22 infoU8 (.slice (some ⟨w.heap.size, 0, none⟩) 0 (l.length + 4)) [] l A l.length c rfl rfl (own_room w w.heap.size 5 (.int .u8 0) (l.length + 4) (Nat.le_refl _) (by simp only [maxLen]; omega)) (HL.out.allocS _) (below_alloc (Below.refl _ _) _) (by simp) (by simp; omega) ?_; intro v1 w1 hown1 hb1; have HO1 := Lib.hid hown1; have HB1 := Lib.hid hb1; clear hown1 hb1) | (at_builtin; refine brow_append_row' (w0 := w) w.heap.size rfl (.tmp 12) (.tmp 13) 22 5 rfl Tryd.underlying22 infoU8 v1 ([] ++ l) [41, 42, 43, 44] (some ⟨w1.heap.size, 0, none⟩) 4 4 rfl rfl (pw_own_below HO1.out (below_alloc (Below.refl _ _) _)) (own_reads' (own_lit w1 _ 5 .u8 [41, 42, 43, 44] (Nat.le_refl _) (by simp))) (HB1.out.alloc HB1.out.size _) (by have := HB1.out.size; simp; omega) (by simp; omega) ?_; intro v2 w2 hown2 hb2; have HO2 := Lib.hid hown2; have HB2 := Lib.hid hb2; clear hown2 hb2; obtain ⟨g, cap, hv2, _, _⟩ := World.ownsRow.form HO2.out (by simp); rw [show ([] ++ l ++ [41, 42, 43, 44] : List Int).length = l.length + 4 from by simp] at hv2; subst hv2; have hcap : l.length + 4 ≤ cap := (own_cap (n := l.length + 4) (by simpa [Bs] using HO2.out)).1; have hcap0 : l.length ≤ cap := (by omega)))
  go_ret2
  refine ⟨g, cap, rfl, ?_, HB2.out⟩
  have := HO2.out
  simpa using this


/-! ### codicilref01_Kept: function 18 -/
def codicilref01_Kept.f (l0 : List Int) (l1 : List Int) : Option (Bool) := if l1 = l0 ++ [41, 42, 43, 44] ∧ l1.length ≤ 9223372036854775807 then some true else none
set_option maxHeartbeats 1000000 in
theorem codicilref01_Kept.calls (A0 : Option Addr) (c0 : Nat) (l0 : List Int) (A1 : Option Addr) (c1 : Nat) (l1 : List Int) (r : Bool) (w : World) (hr0 : Kd.C (Kd.int .u8) w A0 l0.length l0) (hc0 : l0.length ≤ c0) (hr1 : Kd.C (Kd.int .u8) w A1 l1.length l1) (hc1 : l1.length ≤ c1) (h : codicilref01_Kept.f l0 l1 = some r) :
    Calls Tryd.prog 18 #[.slice A0 l0.length c0, .slice A1 l1.length c1] w fun e w' => e = .returned (.bool r) ∧ Below w.heap.size w w' := by
  unfold codicilref01_Kept.f at h
  split at h
  · rename_i hb
    obtain rfl := Option.some.inj h
    obtain ⟨he, hlm⟩ := hb
    have hlen : l1.length = l0.length + 4 := by rw [he]; simp
    have HR0 := Lib.hid hr0
    have HR1 := Lib.hid (Kd.reads_of_C (enc := Value.int .u8) (d := 0) hr1)
    have HE := Lib.hid he
    clear hr0 hr1 he h
    rw [hlen] at hc1 hlm
    rw [hlen]
    have h1 : (((l0.length : Int) + 4) == ((l0.length : Int) + 4)) = true := by simp
    have e1 : l1.take l0.length = l0 := by rw [HE.out]; simp
    have e2 : l1.drop l0.length = [41, 42, 43, 44] := by rw [HE.out]; simp
    obtain ⟨i011, hi011, _, hsz11, _⟩ := info_parts infoU8
    have hr1' := HR1.out
    rw [hlen] at hr1'
    obtain ⟨A2, hcut, hA2⟩ := print_cut_of (P := Tryd.prog) (Value.int .u8) 0 22 5 .i64 Tryd.underlying22 hi011 hsz11 A1 (l0.length + 4) c1 l0.length (by omega)
    have hr2 := hA2 w l1 hc1 hr1'
    rw [show l0.length + 4 - l0.length = 4 from by omega, e2] at hr2
    rw [show l0.length + 4 - l0.length = 4 from by omega] at hcut
    have hrt : ReadsOf (Value.int .u8) 0 w A1 l0.length l0 := by
      have h := hr1'.take_ l0.length (by omega)
      rwa [e1] at h
    have HT := Lib.hid hrt
    have H2 := Lib.hid hr2
    clear hrt hr2 hA2 hr1' e1 e2 hlen hi011 hsz11
    have hs1 : codicilref01_Same.f l0 l0 = some true := by simp [codicilref01_Same.f]
    have hs2 : codicilref01_Same.f [41, 42, 43, 44] [41, 42, 43, 44] = some true := by simp [codicilref01_Same.f]
    have HS1 := Lib.hid hs1
    have HS2 := Lib.hid hs2
    clear hs1 hs2
    go_enter Tryd.func18, Tryd.ntmps18
    go_wp2_with fail
    refine (codicilref01_Same.calls _ _ l0 _ _ l0 true _ (Kd.C_of_reads HT.out) (by omega) HR0.out hc0 HS1.out).mono ?_
    rintro e w1 ⟨rfl, hd⟩
    obtain ⟨n1, rfl⟩ := hd.out
    go_wp2_with fail
    refine (codicilref01_Same.calls A2 _ [41, 42, 43, 44] _ _ [41, 42, 43, 44] true _ (Kd.C_of_reads (H2.out.below ?_)) (by simp; omega) (toC ?_) (by simp) HS2.out).mono ?_
    · exact below_alloc (pw_below_drewN (Below.refl _ _) _) _
    · exact own_reads' (own_lit (w.drewN n1) _ 5 .u8 [41, 42, 43, 44] (Nat.le_refl _) (by simp))
    rintro e w1 ⟨rfl, hd⟩
    obtain ⟨n2, rfl⟩ := hd.out
    go_wp2_with fail
    go_ret
    exact ⟨rfl, pw_below_drewN (below_alloc (pw_below_drewN (Below.refl _ _) _) _) _⟩
  · cases h


/-! ### codicilref05_Adler: function 39 -/
def codicilref05_Adler.l0 : Nat → Int → Int → List Int → Int → Int → Option (Int)
  | 0, _, _, _, _, _ => none
  | k + 1, x3, x4, x7, x8, x9 => if x9 < x8 then (if 0 ≤ x9 then (if x9 < (x7.length : Int) then (codicilref05_Adler.l0 k (((x3 + (rd x7 x9)) % 4294967296) % 65521) (((x4 + (((x3 + (rd x7 x9)) % 4294967296) % 65521)) % 4294967296) % 65521) x7 x8 (wrap64 (x9 + 1))) else (none)) else (none)) else (some (((65536 * x4) + x3) % 4294967296))
def codicilref05_Adler.f (k : Nat) (l0 : List Int) : Option (Int) := codicilref05_Adler.l0 k 1 0 l0 (l0.length : Int) 0
theorem codicilref05_Adler.mono_l : ∀ k, (∀ y0 y1 y2 y3 y4, LeO (codicilref05_Adler.l0 k y0 y1 y2 y3 y4) (codicilref05_Adler.l0 (k + 1) y0 y1 y2 y3 y4))
  | 0 => fun _ _ _ _ _ r h => by simp [codicilref05_Adler.l0] at h
  | k + 1 => by
    have ih0 := codicilref05_Adler.mono_l k
    · intro y0 y1 y2 y3 y4
      unfold codicilref05_Adler.l0
      repeat' first
      | (with_reducible exact ih0 _ _ _ _ _)
      | (with_reducible exact LeO.refl _)
      | (with_reducible exact LeO.none _)
      | (with_reducible refine LeO.ite ?_ ?_)
      | (with_reducible refine LeO.bind ?_ (fun _ => ?_))
      | exact ih0 _ _ _ _ _
      | exact LeO.none _
      | refine LeO.ite ?_ ?_
      | refine LeO.bind ?_ (fun _ => ?_)
theorem codicilref05_Adler.mono : ∀ a0 k, LeO (codicilref05_Adler.f k a0) (codicilref05_Adler.f (k + 1) a0) := by
  intro a0 k
  have ih0 := codicilref05_Adler.mono_l k
  unfold codicilref05_Adler.f
  repeat' first
      | (with_reducible exact ih0 _ _ _ _ _)
      | (with_reducible exact LeO.refl _)
      | (with_reducible exact LeO.none _)
      | (with_reducible refine LeO.ite ?_ ?_)
      | (with_reducible refine LeO.bind ?_ (fun _ => ?_))
      | exact ih0 _ _ _ _ _
      | exact LeO.none _
      | refine LeO.ite ?_ ?_
      | refine LeO.bind ?_ (fun _ => ?_)
set_option maxHeartbeats 8000000 in
set_option maxRecDepth 100000 in
theorem codicilref05_Adler.calls (k : Nat) (A0 : Option Addr) (c0 : Nat) (l0 : List Int) (r : Int) (w : World) (hr0 : Kd.C (Kd.int .u8) w A0 l0.length l0) (hc0 : l0.length ≤ c0) (h : codicilref05_Adler.f k l0 = some r) :
    Calls Tryd.prog 39 #[.slice A0 l0.length c0] w fun e w' => e = .returned (.int .u32 r) ∧ Drawn0 w w' := by
  have HR0 := Aside0.mk hr0
  have HC0 := Aside0.mk hc0
  clear hr0 hc0
  have H : (codicilref05_Adler.l0 k 1 0 l0 (l0.length : Int) 0) = some r := h
  clear h
  have H' := Aside0.mk H
  clear H
  go_enter Tryd.func39, Tryd.ntmps39
  go_wp2
  go_loopg [3, 4, 9] k (fun kq v3 v4 v9 w' => ∃ (x3_1 : Int) (x4_1 : Int) (x9_1 : Int), v3 = .int .u32 x3_1 ∧ v4 = .int .u32 x4_1 ∧ v9 = .int .i64 x9_1 ∧ Aside0 (codicilref05_Adler.l0 kq x3_1 x4_1 l0 (l0.length : Int) x9_1 = some r) ∧ Aside0 (kq ≤ k) ∧ Drawn0 w w')
  case atStart => exact ⟨(1), (0), (0), (by first | rfl | (simp; done) | (simp [*]; done)), (by first | rfl | (simp; done) | (simp [*]; done)), (by first | rfl | (simp; done) | (simp [*]; done)), H', ⟨Nat.le_refl _⟩, by repeat (first | exact Drawn0.refl _ | apply Drawn0.step)⟩
  case round =>
    clear H'
    obtain ⟨x3_1, x4_1, x9_1, rfl, rfl, rfl, HA, HK1, ⟨m1, rfl⟩⟩ := hrel
    cases gk with
    | zero => exact absurd HA.out (by simp [codicilref05_Adler.l0])
    | succ k1 =>
      have H := HA.out
      clear HA
      simp only [codicilref05_Adler.l0] at H
      by_cases c2 : x9_1 < (l0.length : Int)
      · rw [if_pos c2] at H
        have c2b0 : decide (x9_1 < (l0.length : Int)) = true := decide_eq_true c2
        clear c2
        by_cases c3 : 0 ≤ x9_1
        · rw [if_pos c3] at H
          have c3b0 : decide (0 ≤ x9_1) = true := decide_eq_true c3
          clear c3
          by_cases c4 : x9_1 < (l0.length : Int)
          · rw [if_pos c4] at H
            have c4b0 : decide (x9_1 < (l0.length : Int)) = true := decide_eq_true c4
            clear c4
            have H' := Aside0.mk H
            clear H
            have p333 : 0 ≤ (x9_1 : Int) := of_decide_eq_true (by first | (with_reducible assumption) | assumption)
            have q333 : x9_1 < (l0.length : Int) := of_decide_eq_true (by first | (with_reducible assumption) | assumption)
            obtain ⟨ad333, e333, hx333_0⟩ := Kd.at_int HR0.out x9_1 p333 q333
            cases e333
            replace p333 := eq_true p333
            replace q333 := eq_true q333
            go_wp2
            go_roundg k1
            case measure => have := HK1.out; omega
            case rel => exact ⟨(((x3_1 + (rd l0 x9_1)) % 4294967296) % 65521), (((x4_1 + (((x3_1 + (rd l0 x9_1)) % 4294967296) % 65521)) % 4294967296) % 65521), (wrap64 (x9_1 + 1)), (by first | rfl | (simp; done) | (simp [*]; done)), (by first | rfl | (simp; done) | (simp [*]; done)), (by first | rfl | (simp; done) | (simp [*]; done)), H', ⟨by have := HK1.out; omega⟩, by repeat (first | exact Drawn0.refl _ | apply Drawn0.step)⟩
          · rw [if_neg c4] at H
            exact absurd H (by simp)
        · rw [if_neg c3] at H
          exact absurd H (by simp)
      · rw [if_neg c2] at H
        have c2b0 : decide (x9_1 < (l0.length : Int)) = false := decide_eq_false c2
        clear c2
        obtain rfl := Option.some.inj H
        go_wp2
        go_ret
        exact ⟨by first | rfl | (simp; done) | (simp [*]; done), by repeat (first | exact Drawn0.refl _ | apply Drawn0.step)⟩

-- NOT PRINTED: function 26 (codicilref05_DocUnwrap)

/-! ### codicilref04_Stored: function 64 -/
set_option maxRecDepth 8000 in
set_option maxHeartbeats 4000000 in
theorem rstored_calls (w : World) (A : Option Addr) (c : Nat) (l : List Int) (hl : ReadsInt w .u8 A l.length l) (hc : l.length ≤ c) (hm : l.length ≤ 65534) :
    Calls Tryd.prog 64 #[.slice A l.length c] w fun e w' => ∃ v, e = .returned v ∧ Bs 5 w' w.heap.size v (storedB l) ∧ Below w.heap.size w w' := by
  have HL := Lib.hid hl
  obtain ⟨i0, hi0, _, hsz0, _⟩ := info_parts infoR
  have hcut := cut_to (P := Tryd.prog) 22 5 .i64 Tryd.underlying22 hi0 A l.length c (l.length : Int) (by omega) (by omega) hc
  have hcut2 := cut_from (P := Tryd.prog) 22 5 .i64 Tryd.underlying22 hi0 1 hsz0 A l.length c (l.length : Int) (by omega) (by omega)
  clear hl
  have h1 : ¬ (65535 : Int) < (l.length : Int) := by omega
  have HNIL := Lib.hid (show Bs 5 w w.heap.size (.slice none 0 0) [] from World.ownsRow_nil _ _ _ _)
  rw [Int.toNat_natCast] at hcut
  go_enter Tryd.func64, Tryd.ntmps64
  go_wp2_with fail
  go_loopw [0, 3] (fun v0 v3 wr => v0 = .slice A l.length c ∧ v3 = .slice none 0 0 ∧ Hid (Bs 5 wr w.heap.size (.slice none 0 0) []) ∧ Hid (Below w.heap.size w wr)) (fun _ _ _ => 0)
  case atStart => exact ⟨rfl, rfl, HNIL, Lib.hid (Below.refl _ _)⟩
  case round =>
    obtain ⟨rfl, rfl, hq, hb⟩ := hrel
    clear HNIL
    go_wp2_with (first
      | (at_builtin; refine brow_append_row' (w0 := w) w.heap.size rfl (.tmp 13) (.tmp 27) 22 5 rfl Tryd.underlying22 infoR (.slice none 0 0) [] _ (some ⟨wr.heap.size, 0, none⟩) 5 5 rfl rfl (pw_own_below hq.out (below_alloc (Below.refl _ _) _)) (own_reads' (own_lit wr _ 5 .u8 [1, (l.length : Int) % 256, (l.length : Int) / 256, Go.bits .xor .u8 255 ((l.length : Int) % 256), Go.bits .xor .u8 255 ((l.length : Int) / 256)] (Nat.le_refl _) (by simp))) (hb.out.alloc hb.out.size _) (by have := hb.out.size; simp; omega) (by simp) ?_; intro v1 w1 hown1 hb1; have HO1 := Lib.hid hown1; have HB1 := Lib.hid hb1; clear hown1 hb1)
      | (at_builtin; refine brow_append_row' (w0 := w) w.heap.size rfl (.tmp 29) (.tmp 32) 22 5 rfl Tryd.underlying22 infoR v1 _ l A l.length c rfl rfl HO1.out (HL.out.below HB1.out) HB1.out HB1.out.size (by simp; omega) ?_; intro v2 w2 hown2 hb2; have HO2 := Lib.hid hown2; have HB2 := Lib.hid hb2; clear hown2 hb2))
    all_goals (go_ret; exact ⟨v2, rfl, HO2.out, HB2.out⟩)
def codicilref04_Stored.f (l0 : List Int) : Option (List Int) := if l0.length ≤ 65534 then some (storedB l0) else none
theorem codicilref04_Stored.calls (A0 : Option Addr) (c0 : Nat) (l0 : List Int) (r : List Int) (w : World) (hr0 : Kd.C (Kd.int .u8) w A0 l0.length l0) (hc0 : l0.length ≤ c0) (h : codicilref04_Stored.f l0 = some r) :
    Calls Tryd.prog 64 #[.slice A0 l0.length c0] w fun e w' => ∃ v0_ : Value, e = .returned (v0_) ∧ Kd.R (Kd.int .u8) 5 w' w.heap.size (fun _ => True) v0_ r ∧ Below w.heap.size w w' := by
  unfold codicilref04_Stored.f at h
  split at h
  · rename_i hb
    obtain rfl := Option.some.inj h
    exact (rstored_calls w A0 c0 l0 (readsC hr0) hc0 hb).mono fun e w' ⟨v, he, hv, hbl⟩ => ⟨v, he, Bs.toR hv, hbl⟩
  · cases h


-- NOT PRINTED: function 74 (codicilref04_bit)

-- NOT PRINTED: function 75 (codicilref04_number)

/-! ### codicilref04_same: function 85 -/
def codicilref04_same.l0 : Nat → List Int → Int → Int → Int → Option (Int)
  | 0, _, _, _, _ => none
  | k + 1, x0, x1, x2, x7 => if x7 < 258 then (if (wrap64 (x1 + x7)) < (x0.length : Int) then (if 0 ≤ (wrap64 (x1 + x7)) then (if 0 ≤ (wrap64 (x2 + x7)) then (if (wrap64 (x2 + x7)) < (x0.length : Int) then (if (rd x0 (wrap64 (x1 + x7))) = (rd x0 (wrap64 (x2 + x7))) then (codicilref04_same.l0 k x0 x1 x2 (wrap64 (x7 + 1))) else (some x7)) else (none)) else (none)) else (none)) else (some x7)) else (some x7)
def codicilref04_same.f (k : Nat) (l0 : List Int) (a1 : Int) (a2 : Int) : Option (Int) := codicilref04_same.l0 k l0 a1 a2 0
theorem codicilref04_same.mono_l : ∀ k, (∀ y0 y1 y2 y3, LeO (codicilref04_same.l0 k y0 y1 y2 y3) (codicilref04_same.l0 (k + 1) y0 y1 y2 y3))
  | 0 => fun _ _ _ _ r h => by simp [codicilref04_same.l0] at h
  | k + 1 => by
    have ih0 := codicilref04_same.mono_l k
    · intro y0 y1 y2 y3
      unfold codicilref04_same.l0
      repeat' first
      | (with_reducible exact ih0 _ _ _ _)
      | (with_reducible exact LeO.refl _)
      | (with_reducible exact LeO.none _)
      | (with_reducible refine LeO.ite ?_ ?_)
      | (with_reducible refine LeO.bind ?_ (fun _ => ?_))
      | exact ih0 _ _ _ _
      | exact LeO.none _
      | refine LeO.ite ?_ ?_
      | refine LeO.bind ?_ (fun _ => ?_)
theorem codicilref04_same.mono : ∀ a0 a1 a2 k, LeO (codicilref04_same.f k a0 a1 a2) (codicilref04_same.f (k + 1) a0 a1 a2) := by
  intro a0 a1 a2 k
  have ih0 := codicilref04_same.mono_l k
  unfold codicilref04_same.f
  repeat' first
      | (with_reducible exact ih0 _ _ _ _)
      | (with_reducible exact LeO.refl _)
      | (with_reducible exact LeO.none _)
      | (with_reducible refine LeO.ite ?_ ?_)
      | (with_reducible refine LeO.bind ?_ (fun _ => ?_))
      | exact ih0 _ _ _ _
      | exact LeO.none _
      | refine LeO.ite ?_ ?_
      | refine LeO.bind ?_ (fun _ => ?_)
set_option maxHeartbeats 8000000 in
set_option maxRecDepth 100000 in
theorem codicilref04_same.calls (k : Nat) (A0 : Option Addr) (c0 : Nat) (l0 : List Int) (a1 : Int) (a2 : Int) (r : Int) (w : World) (hr0 : Kd.C (Kd.int .u8) w A0 l0.length l0) (hc0 : l0.length ≤ c0) (h : codicilref04_same.f k l0 a1 a2 = some r) :
    Calls Tryd.prog 85 #[.slice A0 l0.length c0, .int .i64 a1, .int .i64 a2] w fun e w' => e = .returned (.int .i64 r) ∧ Drawn0 w w' := by
  have HR0 := Aside0.mk hr0
  have HC0 := Aside0.mk hc0
  clear hr0 hc0
  have H : (codicilref04_same.l0 k l0 a1 a2 0) = some r := h
  clear h
  have H' := Aside0.mk H
  clear H
  go_enter Tryd.func85, Tryd.ntmps85
  go_wp2
  repeat (go_quiet (fail); try go_wp2)
  go_loopg [7] k (fun kq v7 w' => ∃ (x7_1 : Int), v7 = .int .i64 x7_1 ∧ Aside0 (codicilref04_same.l0 kq l0 a1 a2 x7_1 = some r) ∧ Aside0 (kq ≤ k) ∧ Drawn0 w w')
  case atStart => exact ⟨(0), (by first | rfl | (simp; done) | (simp [*]; done)), H', ⟨Nat.le_refl _⟩, by repeat (first | exact Drawn0.refl _ | apply Drawn0.step)⟩
  case round =>
    clear H'
    try clear p2
    obtain ⟨x7_1, rfl, HA, HK1, ⟨m1, rfl⟩⟩ := hrel
    cases gk with
    | zero => exact absurd HA.out (by simp [codicilref04_same.l0])
    | succ k1 =>
      have H := HA.out
      clear HA
      simp only [codicilref04_same.l0] at H
      by_cases c4 : x7_1 < 258
      · rw [if_pos c4] at H
        have c4b0 : decide (x7_1 < 258) = true := decide_eq_true c4
        clear c4
        by_cases c5 : (wrap64 (a1 + x7_1)) < (l0.length : Int)
        · rw [if_pos c5] at H
          have c5b0 : decide ((wrap64 (a1 + x7_1)) < (l0.length : Int)) = true := decide_eq_true c5
          clear c5
          obtain ⟨ji6, hji6⟩ : ∃ j_ : Int, (wrap64 (a1 + x7_1)) = j_ := ⟨_, rfl⟩
          replace H : (if 0 ≤ (ji6) then (if 0 ≤ (wrap64 (a2 + x7_1)) then (if (wrap64 (a2 + x7_1)) < (l0.length : Int) then (if (rd l0 (ji6)) = (rd l0 (wrap64 (a2 + x7_1))) then (codicilref04_same.l0 k1 l0 a1 a2 (wrap64 (x7_1 + 1))) else (some x7_1)) else (none)) else (none)) else (none)) = some r := by first | (rw [hji6] at H; exact H) | (simp only [hji6] at H ⊢; exact H)
          (try rw [hji6] at c5b0)
          have hji6w : (IntKind.i64.wrap (a1 + x7_1)) = ji6 := (i64_w _).trans hji6
          by_cases c7 : 0 ≤ (ji6)
          · rw [if_pos c7] at H
            have c7b0 : decide (0 ≤ (ji6)) = true := decide_eq_true c7
            clear c7
            obtain ⟨ji8, hji8⟩ : ∃ j_ : Int, (wrap64 (a2 + x7_1)) = j_ := ⟨_, rfl⟩
            replace H : (if 0 ≤ (ji8) then (if (ji8) < (l0.length : Int) then (if (rd l0 (ji6)) = (rd l0 (ji8)) then (codicilref04_same.l0 k1 l0 a1 a2 (wrap64 (x7_1 + 1))) else (some x7_1)) else (none)) else (none)) = some r := by first | (rw [hji8] at H; exact H) | (simp only [hji8] at H ⊢; exact H)
            have hji8w : (IntKind.i64.wrap (a2 + x7_1)) = ji8 := (i64_w _).trans hji8
            by_cases c9 : 0 ≤ (ji8)
            · rw [if_pos c9] at H
              have c9b0 : decide (0 ≤ (ji8)) = true := decide_eq_true c9
              clear c9
              by_cases c10 : (ji8) < (l0.length : Int)
              · rw [if_pos c10] at H
                have c10b0 : decide ((ji8) < (l0.length : Int)) = true := decide_eq_true c10
                clear c10
                by_cases c11 : (rd l0 (ji6)) = (rd l0 (ji8))
                · rw [if_pos c11] at H
                  have c11b0 : ((rd l0 (ji6)) == (rd l0 (ji8))) = true := beq_iff_eq.mpr c11
                  have c11b1 : ((rd l0 (ji6)) != (rd l0 (ji8))) = false := bne_eq_false_iff_eq.mpr c11
                  clear c11
                  have H' := Aside0.mk H
                  clear H
                  have p340 : 0 ≤ ((ji6) : Int) := of_decide_eq_true (by first | (with_reducible assumption) | assumption)
                  have q340 : (ji6) < (l0.length : Int) := of_decide_eq_true (by first | (with_reducible assumption) | assumption)
                  obtain ⟨ad340, e340, hx340_0⟩ := Kd.at_int HR0.out (ji6) p340 q340
                  cases e340
                  replace p340 := eq_true p340
                  replace q340 := eq_true q340
                  have p341 : 0 ≤ ((ji8) : Int) := of_decide_eq_true (by first | (with_reducible assumption) | assumption)
                  have q341 : (ji8) < (l0.length : Int) := of_decide_eq_true (by first | (with_reducible assumption) | assumption)
                  obtain ⟨ad341, e341, hx341_0⟩ := Kd.at_int HR0.out (ji8) p341 q341
                  obtain rfl : ad340 = ad341 := (by injection e341)
                  replace p341 := eq_true p341
                  replace q341 := eq_true q341
                  go_wp2
                  repeat (go_quiet (fail); try go_wp2)
                  go_roundg k1
                  case measure => have := HK1.out; omega
                  case rel => exact ⟨(wrap64 (x7_1 + 1)), (by first | rfl | (simp; done) | (simp [*]; done)), H', ⟨by have := HK1.out; omega⟩, by repeat (first | exact Drawn0.refl _ | apply Drawn0.step)⟩
                · rw [if_neg c11] at H
                  have c11b0 : ((rd l0 (ji6)) == (rd l0 (ji8))) = false := beq_eq_false_iff_ne.mpr c11
                  have c11b1 : ((rd l0 (ji6)) != (rd l0 (ji8))) = true := bne_iff_ne.mpr c11
                  obtain rfl := Option.some.inj H
                  have p340 : 0 ≤ ((ji6) : Int) := of_decide_eq_true (by first | (with_reducible assumption) | assumption)
                  have q340 : (ji6) < (l0.length : Int) := of_decide_eq_true (by first | (with_reducible assumption) | assumption)
                  obtain ⟨ad340, e340, hx340_0⟩ := Kd.at_int HR0.out (ji6) p340 q340
                  cases e340
                  replace p340 := eq_true p340
                  replace q340 := eq_true q340
                  have p341 : 0 ≤ ((ji8) : Int) := of_decide_eq_true (by first | (with_reducible assumption) | assumption)
                  have q341 : (ji8) < (l0.length : Int) := of_decide_eq_true (by first | (with_reducible assumption) | assumption)
                  obtain ⟨ad341, e341, hx341_0⟩ := Kd.at_int HR0.out (ji8) p341 q341
                  obtain rfl : ad340 = ad341 := (by injection e341)
                  replace p341 := eq_true p341
                  replace q341 := eq_true q341
                  go_wp2
                  repeat (go_quiet (fail); try go_wp2)
                  go_ret
                  exact ⟨by first | rfl | (simp; done) | (simp only [← hji6, ← hji8] <;> (first | rfl | simp)) | (simp [*]; done), by repeat (first | exact Drawn0.refl _ | apply Drawn0.step)⟩
              · rw [if_neg c10] at H
                exact absurd H (by simp)
            · rw [if_neg c9] at H
              exact absurd H (by simp)
          · rw [if_neg c7] at H
            exact absurd H (by simp)
        · rw [if_neg c5] at H
          have c5b0 : decide ((wrap64 (a1 + x7_1)) < (l0.length : Int)) = false := decide_eq_false c5
          clear c5
          obtain rfl := Option.some.inj H
          go_wp2
          repeat (go_quiet (fail); try go_wp2)
          go_ret
          exact ⟨by first | rfl | (simp; done) | (simp [*]; done), by repeat (first | exact Drawn0.refl _ | apply Drawn0.step)⟩
      · rw [if_neg c4] at H
        have c4b0 : decide (x7_1 < 258) = false := decide_eq_false c4
        clear c4
        obtain rfl := Option.some.inj H
        go_wp2
        repeat (go_quiet (fail); try go_wp2)
        go_ret
        exact ⟨by first | rfl | (simp; done) | (simp [*]; done), by repeat (first | exact Drawn0.refl _ | apply Drawn0.step)⟩

end Go.Proofs.YtkdklcamgcmifaaDoor.PZ
