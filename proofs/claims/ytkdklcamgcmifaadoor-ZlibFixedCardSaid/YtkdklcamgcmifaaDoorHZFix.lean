/- codicillaw05.ZlibFixed: walked. -/
import Derived.Test.YtkdklcamgcmifaaDoorHZB
namespace Go.Proofs.YtkdklcamgcmifaaDoor
set_option linter.unusedVariables false
set_option linter.unusedSimpArgs false
open Go.RowKit Go.Proofs.YtkdklcamgcmifaaDoorW.PrintWords Go.Proofs.YtkdklcamgcmifaaDoorW.PrintMore Go.Proofs.YtkdklcamgcmifaaDoor.PZ
theorem wrap_nil2 : (if (2 : Int) < 0 ∨ (2 : Int) < 2 then ([], 1) else (wrapL [] 2, 0)) = (([120, 1, 3, 0, 0, 0, 0, 1], 0) : List Int × Int) := by
  rw [if_neg (by decide)]
  have e : docD [] 2 = ([3, 0], 0) := by
    unfold docD
    rw [stored_len, fixed_nil]
    decide
  unfold wrapL
  rw [e]
  decide +kernel
theorem zfx_0 : unwF [120] 9 = ([], 0, 5) := by decide +kernel
theorem zfx_1 : unwF [120, 2, 3, 0, 0, 0, 0, 1] 9 = ([], 0, 4) := by decide +kernel
theorem zfx_2 : unwF [120, 1, 3, 0, 0, 0, 0, 2] 9 = ([], 0, 6) := by decide +kernel
theorem zfx_3 : unwF [120, 1, 3, 0, 0, 0, 0] 9 = ([], 0, 5) := by decide +kernel
theorem zfx_4 : unwF [120, 32, 3, 0, 0, 0, 0, 1] 9 = ([], 0, 4) := by decide +kernel
theorem zfx_6 : unwF [120, 156, 3, 0, 0, 0, 0, 1, 77] 0 = ([], 8, 0) := by decide +kernel
theorem zfx_5 : unwF [] (-1) = ([], 0, 1) := by decide +kernel
set_option maxRecDepth 8000 in
set_option maxHeartbeats 8000000 in
theorem zlibFixed_card (w : World) (ho : Ord w) : Calls Tryd.prog 10 #[] w fun e w' => e = .returned (.bool true) ∧ Below w.heap.size w w' := by
  have HO := Lib.hid ho
  have HAW := Lib.hid (show codicillaw05_awake.f = some true from rfl)
  clear ho
  go_enter Tryd.func10, Tryd.ntmps10
  go_wp2_with fail
  refine (codicillaw05_awake.calls true w HAW.out).mono ?_
  rintro e w0 ⟨rfl, hb0⟩
  have HB0 := Lib.hid hb0
  clear hb0
  go_wp2_with fail
  refine (wrap_any w0 none 0 0 [] 2 rfl (reads_none _) (by simp) (Nat.le_refl _) (by omega) _ wrap_nil2).mono ?_
  rintro e wa ⟨Aa, ca, rfl, HVa, HBa⟩
  have HB1 := Lib.hid (below_then HB0.out HB0.out.size HBa.out)
  have HRa : Hid (ReadsInt wa .u8 Aa 8 [120, 1, 3, 0, 0, 0, 0, 1]) := Lib.hid (own_reads' HVa.out)
  have hca : 8 ≤ ca := (own_cap HVa.out).1
  go_wp2_with fail
  refine (wrap_any wa none 0 0 [] 3 rfl (reads_none _) (by simp) (Nat.le_refl _) (by omega) ([], 1) (if_pos (by decide))).mono ?_
  rintro e w1 ⟨Ab, cb, rfl, HVb, HBb⟩
  have HB2 := Lib.hid (below_then HB1.out HB1.out.size HBb.out)
  have HR2 := Lib.hid (HRa.out.below HBb.out)
  clear HVa HBa HRa HVb HBb HB0 HB1
  go_wp2_with fail
  refine (unwrap_lit w1 [120] 9 _ (HO.out.below HB2.out) (by decide) (by decide) zfx_0).mono ?_
  rintro e w2 ⟨A3, c3, rfl, HBx⟩
  have HB3 := Lib.hid (below_then HB2.out HB2.out.size HBx.out)
  have HR3 := Lib.hid (HR2.out.below HBx.out)
  clear HB2 HR2 HBx
  have HB2 := HB3
  have HR2 := HR3
  clear HB3 HR3
  go_wp2_with fail
  refine (unwrap_lit w2 [120, 2, 3, 0, 0, 0, 0, 1] 9 _ (HO.out.below HB2.out) (by decide) (by decide) zfx_1).mono ?_
  rintro e w3 ⟨A4, c4, rfl, HBx⟩
  have HB3 := Lib.hid (below_then HB2.out HB2.out.size HBx.out)
  have HR3 := Lib.hid (HR2.out.below HBx.out)
  clear HB2 HR2 HBx
  have HB2 := HB3
  have HR2 := HR3
  clear HB3 HR3
  go_wp2_with fail
  refine (unwrap_lit w3 [120, 1, 3, 0, 0, 0, 0, 2] 9 _ (HO.out.below HB2.out) (by decide) (by decide) zfx_2).mono ?_
  rintro e w4 ⟨A5, c5, rfl, HBx⟩
  have HB3 := Lib.hid (below_then HB2.out HB2.out.size HBx.out)
  have HR3 := Lib.hid (HR2.out.below HBx.out)
  clear HB2 HR2 HBx
  have HB2 := HB3
  have HR2 := HR3
  clear HB3 HR3
  go_wp2_with fail
  refine (unwrap_lit w4 [120, 1, 3, 0, 0, 0, 0] 9 _ (HO.out.below HB2.out) (by decide) (by decide) zfx_3).mono ?_
  rintro e w5 ⟨A6, c6, rfl, HBx⟩
  have HB3 := Lib.hid (below_then HB2.out HB2.out.size HBx.out)
  have HR3 := Lib.hid (HR2.out.below HBx.out)
  clear HB2 HR2 HBx
  have HB2 := HB3
  have HR2 := HR3
  clear HB3 HR3
  go_wp2_with fail
  refine (unwrap_lit w5 [120, 32, 3, 0, 0, 0, 0, 1] 9 _ (HO.out.below HB2.out) (by decide) (by decide) zfx_4).mono ?_
  rintro e w6 ⟨A7, c7, rfl, HBx⟩
  have HB3 := Lib.hid (below_then HB2.out HB2.out.size HBx.out)
  have HR3 := Lib.hid (HR2.out.below HBx.out)
  clear HB2 HR2 HBx
  have HB2 := HB3
  have HR2 := HR3
  clear HB3 HR3
  go_wp2_with fail
  refine (unwrap_any w6 none 0 0 [] (-1) _ rfl (reads_none _) (by simp) (Nat.le_refl _) (by omega) (HO.out.below HB2.out) zfx_5).mono ?_
  rintro e w7 ⟨A8, c8, rfl, HVx, HBx⟩
  have HB3 := Lib.hid (below_then HB2.out HB2.out.size HBx.out)
  have HR3 := Lib.hid (HR2.out.below HBx.out)
  clear HB2 HR2 HBx HVx
  have HB2 := HB3
  have HR2 := HR3
  clear HB3 HR3
  go_wp2_with fail
  refine (unwrap_lit w7 [120, 156, 3, 0, 0, 0, 0, 1, 77] 0 _ (HO.out.below HB2.out) (by decide) (by decide) zfx_6).mono ?_
  rintro e w8 ⟨A9, c9, rfl, HBx⟩
  have HB3 := Lib.hid (below_then HB2.out HB2.out.size HBx.out)
  have HR3 := Lib.hid (HR2.out.below HBx.out)
  clear HB2 HR2 HBx
  have HB2 := HB3
  have HR2 := HR3
  clear HB3 HR3
  go_wp2_with fail
  refine (adler_calls w8 none 0 0 [] rfl (reads_none _) (Nat.le_refl _) (by simp) (by omega)).mono ?_
  rintro e wx ⟨rfl, nx, rfl⟩
  rw [show A32 [] = 1 from rfl]
  go_wp2_with fail
  refine (crc_nil _).mono ?_
  rintro e wx ⟨rfl, ny, rfl⟩
  go_wp2_with fail
  refine (same_yes _ Aa ca (some ⟨(w8.drewN (nx + ny)).heap.size, 0, none⟩) 8 8 8 [120, 1, 3, 0, 0, 0, 0, 1] rfl rfl (HR2.out.below (below_alloc (pw_below_drewN (Below.refl _ _) (nx + ny)) _)) (lit_reads _ [120, 1, 3, 0, 0, 0, 0, 1] (by decide)) hca (Nat.le_refl _)).mono ?_
  rintro e wx ⟨rfl, nz, rfl⟩
  go_wp2_with fail
  go_ret
  exact ⟨rfl, pw_below_drewN (below_alloc (pw_below_drewN HB2.out (nx + ny)) _) nz⟩
end Go.Proofs.YtkdklcamgcmifaaDoor
