/- codicillaw03.InflateFixed: walked. -/
import Derived.Test.YtkdklcamgcmifaaDoorHAwake3
import Derived.Test.YtkdklcamgcmifaaDoorHDocL
namespace Go.Proofs.YtkdklcamgcmifaaDoor
set_option linter.unusedVariables false
set_option linter.unusedSimpArgs false
open Go.RowKit Go.Proofs.YtkdklcamgcmifaaDoorW.PrintWords Go.Proofs.YtkdklcamgcmifaaDoorW.PrintMore Go.Proofs.YtkdklcamgcmifaaDoor.PI
theorem dinflate_any (w : World) (A : Option Addr) (n c : Nat) (l : List Int) (m : Int) (r : List Int × Int × Int) (hn : l.length = n) (hr : ReadsInt w .u8 A n l) (hb : ∀ x ∈ l, 0 ≤ x ∧ x < 256) (hc : n ≤ c) (hl : n ≤ 1000000) (ho : Ord w) (he : infF l m = r) :
    Calls Tryd.prog 16 #[.slice A n c, .int .i64 m] w fun ee w' =>
      ∃ A' c', ee = .returned (.tuple #[.slice A' r.1.length c', .int .i64 r.2.1, .int .i64 r.2.2]) ∧ Hid (Bs 5 w' w.heap.size (.slice A' r.1.length c') r.1) ∧ Hid (Below w.heap.size w w') := by
  subst hn
  refine (dinflate_calls w A c l m hr hb hc (by omega) ho).mono ?_
  rintro ee w2 ⟨v, rfl, hv, hb2⟩
  rw [he] at hv ⊢
  obtain ⟨A', c', rfl⟩ := own_slice hv.out
  exact ⟨A', c', rfl, hv, hb2⟩
theorem ifx_1 : infF [1, 0, 0, 255, 255] 0 = ([], 5, 0) := by decide +kernel
theorem ifx_2 : infF [3, 0] 0 = ([], 2, 0) := by decide +kernel
theorem ifx_3 : infF [1, 0, 0, 255] 9 = ([], 0, 5) := by decide +kernel
theorem ifx_4 : infF [1, 1, 0, 255, 255, 97] 9 = ([], 0, 4) := by decide +kernel
theorem ifx_5 : infF [1, 3, 0, 252, 255, 97, 98, 99] 2 = ([], 0, 10) := by decide +kernel
theorem ifx_6 : infF [] 9 = ([], 0, 5) := by decide +kernel
theorem ifx_7 : infF [] (-1) = ([], 0, 1) := by decide +kernel
theorem ifx_8 : infF [] 1048577 = ([], 0, 1) := by decide +kernel
theorem ifx_9 : infF [2] 9 = ([], 0, 5) := by decide +kernel
theorem reads_noneU (w : World) : ReadsInt w .u8 none 0 [] := ⟨rfl, by simp, fun h => absurd h (by simp)⟩
set_option maxRecDepth 8000 in
set_option maxHeartbeats 8000000 in
theorem inflateFixed_card (w : World) (ho : Ord w) : Calls Tryd.prog 5 #[] w fun e w' => e = .returned (.bool true) ∧ Below w.heap.size w w' := by
  have HO := Lib.hid ho
  clear ho
  go_enter Tryd.func5, Tryd.ntmps5
  go_wp2_with fail
  refine (awake3_calls w HO.out).mono ?_
  rintro e w0 ⟨rfl, hb0⟩
  have HB0 := Lib.hid hb0
  clear hb0
  go_wp2_with fail
  refine (inflate_lit w0 [1, 0, 0, 255, 255] 0 _ (HO.out.below HB0.out) (by decide) (by decide) ifx_1).mono ?_
  rintro e w1 ⟨A1, c1, rfl, -, hbx⟩
  have HB1 := Lib.hid (below_then HB0.out HB0.out.size hbx.out)
  clear hbx
  go_wp2_with fail
  refine (inflate_lit w1 [3, 0] 0 _ (HO.out.below HB1.out) (by decide) (by decide) ifx_2).mono ?_
  rintro e w2 ⟨A2, c2, rfl, -, hbx⟩
  have HB2 := Lib.hid (below_then HB1.out HB1.out.size hbx.out)
  clear hbx
  go_wp2_with fail
  refine (inflate_lit w2 [1, 0, 0, 255] 9 _ (HO.out.below HB2.out) (by decide) (by decide) ifx_3).mono ?_
  rintro e w3 ⟨A3, c3, rfl, -, hbx⟩
  have HB3 := Lib.hid (below_then HB2.out HB2.out.size hbx.out)
  clear hbx
  go_wp2_with fail
  refine (inflate_lit w3 [1, 1, 0, 255, 255, 97] 9 _ (HO.out.below HB3.out) (by decide) (by decide) ifx_4).mono ?_
  rintro e w4 ⟨A4, c4, rfl, -, hbx⟩
  have HB4 := Lib.hid (below_then HB3.out HB3.out.size hbx.out)
  clear hbx
  go_wp2_with fail
  refine (inflate_lit w4 [1, 3, 0, 252, 255, 97, 98, 99] 2 _ (HO.out.below HB4.out) (by decide) (by decide) ifx_5).mono ?_
  rintro e w5 ⟨A5, c5, rfl, -, hbx⟩
  have HB5 := Lib.hid (below_then HB4.out HB4.out.size hbx.out)
  clear hbx
  go_wp2_with fail
  refine (inflate_any w5 none 0 0 [] 9 _ rfl (reads_noneU _) (by simp) (Nat.le_refl _) (by omega) (HO.out.below HB5.out) ifx_6).mono ?_
  rintro e w6 ⟨A6, c6, rfl, -, hbx⟩
  have HB6 := Lib.hid (below_then HB5.out HB5.out.size hbx.out)
  clear hbx
  go_wp2_with fail
  refine (inflate_any w6 none 0 0 [] (-1) _ rfl (reads_noneU _) (by simp) (Nat.le_refl _) (by omega) (HO.out.below HB6.out) ifx_7).mono ?_
  rintro e w7 ⟨A7, c7, rfl, -, hbx⟩
  have HB7 := Lib.hid (below_then HB6.out HB6.out.size hbx.out)
  clear hbx
  go_wp2_with fail
  refine (inflate_any w7 none 0 0 [] 1048577 _ rfl (reads_noneU _) (by simp) (Nat.le_refl _) (by omega) (HO.out.below HB7.out) ifx_8).mono ?_
  rintro e w8 ⟨A8, c8, rfl, -, hbx⟩
  have HB8 := Lib.hid (below_then HB7.out HB7.out.size hbx.out)
  clear hbx
  go_wp2_with fail
  refine (inflate_lit w8 [2] 9 _ (HO.out.below HB8.out) (by decide) (by decide) ifx_9).mono ?_
  rintro e w9 ⟨A9, c9, rfl, -, hbx⟩
  have HB9 := Lib.hid (below_then HB8.out HB8.out.size hbx.out)
  clear hbx
  go_wp2_with fail
  obtain ⟨r, hr⟩ : ∃ r, infF [5, 192, 129, 8, 0, 0, 0, 0, 32, 127, 235, 3] 99 = r := ⟨_, rfl⟩
  have HRR := Lib.hid hr
  clear hr
  have hbA := below_alloc (Below.refl w9.heap.size w9) (.cells (nums .u8 [5, 192, 129, 8, 0, 0, 0, 0, 32, 127, 235, 3]).toArray 5)
  have HBA := Lib.hid (below_then HB9.out HB9.out.size hbA)
  have HRD := Lib.hid (lit_reads w9 [5, 192, 129, 8, 0, 0, 0, 0, 32, 127, 235, 3] (by decide))
  clear hbA
  refine (inflate_any _ (some ⟨w9.heap.size, 0, none⟩) 12 12 [5, 192, 129, 8, 0, 0, 0, 0, 32, 127, 235, 3] 99 r rfl HRD.out (by decide) (Nat.le_refl _) (by omega) (HO.out.below HBA.out) HRR.out).mono ?_
  rintro e w10 ⟨A10, c10, rfl, hv10, hb10⟩
  have HV10 := Lib.hid hv10.out
  have HB10 := Lib.hid (below_then HBA.out HBA.out.size hb10.out)
  have HRD10 := Lib.hid (HRD.out.below hb10.out)
  clear hv10 hb10
  go_wp2_with fail
  refine (dinflate_any w10 (some ⟨w9.heap.size, 0, none⟩) 12 12 [5, 192, 129, 8, 0, 0, 0, 0, 32, 127, 235, 3] 99 r rfl HRD10.out (by decide) (Nat.le_refl _) (by omega) (HO.out.below HB10.out) HRR.out).mono ?_
  rintro e w11 ⟨A11, c11, rfl, hv11, hb11⟩
  have HV11 := Lib.hid hv11.out
  have HB11 := Lib.hid (below_then HB10.out HB10.out.size hb11.out)
  have HV12 := Lib.hid (pw_own_below HV10.out hb11.out)
  clear hv11 hb11
  go_wp2_with fail
  refine (same_yes w11 A10 c10 A11 c11 r.1.length r.1.length r.1 rfl rfl (own_reads' HV12.out) (own_reads' HV11.out) (own_cap HV12.out).1 (own_cap HV11.out).1).mono ?_
  rintro e w12 ⟨rfl, n12, rfl⟩
  go_wp2_with fail
  go_ret
  exact ⟨rfl, pw_below_drewN HB11.out n12⟩
end Go.Proofs.YtkdklcamgcmifaaDoor
