/- codicillaw04.DeflateFixed: walked. -/
import Derived.Test.YtkdklcamgcmifaaDoorHDefA
namespace Go.Proofs.YtkdklcamgcmifaaDoor
set_option linter.unusedVariables false
set_option linter.unusedSimpArgs false
open Go.RowKit Go.Proofs.YtkdklcamgcmifaaDoorW.PrintWords Go.Proofs.YtkdklcamgcmifaaDoorW.PrintMore Go.Proofs.YtkdklcamgcmifaaDoor.PY
theorem deflate_any (w : World) (A : Option Addr) (n c : Nat) (l : List Int) (way : Int) (r : List Int × Int) (hn : l.length = n) (hr : ReadsInt w .u8 A n l) (hb : ∀ x ∈ l, 0 ≤ x ∧ x < 256) (hc : n ≤ c) (hl : n ≤ 60000) (he : docD l way = r) :
    Calls Tryd.prog 20 #[.slice A n c, .int .i64 way] w fun e w' => ∃ A' c', e = .returned (.tuple #[.slice A' r.1.length c', .int .i64 r.2]) ∧ Hid (Bs 5 w' w.heap.size (.slice A' r.1.length c') r.1) ∧ Hid (Below w.heap.size w w') := by
  subst hn
  refine (deflate_calls w A c l way hr hc hb hl).mono ?_
  rintro e w1 ⟨v, rfl, hv, hb⟩
  rw [he] at hv ⊢
  obtain ⟨A', c', rfl⟩ := own_slice hv
  exact ⟨A', c', rfl, Lib.hid hv, Lib.hid hb⟩
theorem dfx_1 : docD [] 2 = ([3, 0], 0) := by
  unfold docD
  rw [stored_len, fixed_nil]
  decide
theorem dfx_2 : docD [] 3 = ([], 1) := by unfold docD; rw [if_pos (by decide)]
theorem dfx_3 : docD [] (-1) = ([], 1) := by unfold docD; rw [if_pos (by decide)]
theorem make_full {P : Program} (t e : TypeId) {z : Value} {bytes : Nat} (ht : P.underlying t = some (.slice e)) (hinfo : (P.info? e).map (fun i => (i.zero, i.size, i.bytes)) = some (some z, 1, bytes)) (hz : z.cells = #[z])
    (x : Int) (c : Nat) (hx : (c : Int) = x) (hn : bytes * c ≤ 281474976710656) (h63 : c ≤ 9223372036854775807) :
    ∀ W : World, (Instr.makeSlice t (.int .i64 x) (.int .i64 x)).run P W = .ok (.slice (some ⟨W.heap.size, 0, none⟩) c c) (W.alloc (.cells (madeCells #[z] c) e)) := by
  intro W
  subst hx
  obtain ⟨i0, hi, hzz⟩ := Option.map_eq_some_iff.1 hinfo
  simp only [Prod.mk.injEq] at hzz
  obtain ⟨hz0, hz1, hz2⟩ := hzz
  subst hz2
  have hb : (i0.bytes : Int) * (c : Int) ≤ 281474976710656 := by
    have h : ((i0.bytes * c : Nat) : Int) ≤ 281474976710656 := by omega
    rwa [Int.natCast_mul] at h
  have h := run_make (P := P) W t e i0 z ht hi hz0 .i64 .i64 c c (by omega) (by omega) hb (by omega)
  rw [hz, hz1] at h
  simpa using h
set_option maxRecDepth 100000 in
set_option maxHeartbeats 8000000 in
theorem deflateFixed_card (w : World) (ho : Ord w) : Calls Tryd.prog 8 #[] w fun e w' => e = .returned (.bool true) ∧ Below w.heap.size w w' := by
  have HO := Lib.hid ho
  have HAW := Lib.hid (show codicillaw04_awake.f = some true from rfl)
  obtain ⟨L, hL⟩ : ∃ L : Nat, L = 70000 := ⟨_, rfl⟩
  obtain ⟨M, hM⟩ : ∃ M : Nat, M = 1048577 := ⟨_, rfl⟩
  have hmkL := make_full (P := Tryd.prog) 22 5 Tryd.underlying22 infoU8 rfl 70000 L (by omega) (by omega) (by omega)
  have hmkM := make_full (P := Tryd.prog) 22 5 Tryd.underlying22 infoU8 rfl 1048577 M (by omega) (by omega) (by omega)
  obtain ⟨z, hz⟩ : ∃ z, z = List.replicate L (0 : Int) := ⟨_, rfl⟩
  have hzl : z.length = L := by rw [hz]; simp
  have hzb : ∀ x ∈ z, 0 ≤ x ∧ x < 256 := fun x hx => by rw [hz] at hx; have := List.eq_of_mem_replicate hx; omega
  obtain ⟨B, hB⟩ : ∃ B, B = strS (chS 16 z) := ⟨_, rfl⟩
  obtain ⟨C, hC⟩ : ∃ C, C = fixedB z := ⟨_, rfl⟩
  have hBz := strS_zeros L hL
  have hCz := fixedB_zeros L hL
  rw [← hz, ← hB] at hBz
  rw [← hz, ← hC] at hCz
  have hinf : infF C (L : Int) = (z, (C.length : Int), 0) := by
    obtain ⟨q, hq, hn⟩ := strO_fixed (l := z) (more := []) (most := L) hzb (by omega)
    rw [List.append_nil, ← hC] at hq
    rw [infF_ok (by omega) hq, hn, hC]
  have HZ := Lib.hid (And.intro hL (And.intro hM (And.intro hz (And.intro hzl (And.intro hzb hB)))))
  have HC := Lib.hid hC
  have HCB2 : Hid (∀ x ∈ C, 0 ≤ x ∧ x < 256) := Lib.hid (by
    intro x hx
    rw [hC] at hx
    unfold fixedB leB at hx
    obtain ⟨i, _, rfl⟩ := List.mem_map.1 hx
    omega)
  have HBz := Lib.hid hBz
  have HINF := Lib.hid hinf
  have hcl : (C.length : Int) < 1000 := by omega
  have hLn : (L : Int) ≤ 1048576 := by omega
  have hM1 : 1048576 < M := by omega
  clear ho hL hM hz hzl hzb hB hC hBz hCz hinf
  go_enter Tryd.func8, Tryd.ntmps8
  go_wp2_with fail
  refine (codicillaw04_awake.calls true w HAW.out).mono ?_
  rintro e w0 ⟨rfl, hb0⟩
  have HB0 := Lib.hid hb0
  clear hb0
  go_wp2_with fail
  refine (deflate_any w0 none 0 0 [] 2 _ rfl (reads_none _) (by simp) (Nat.le_refl _) (by omega) dfx_1).mono ?_
  rintro e w1 ⟨A1, c1, rfl, HV1, HBx⟩
  have HB1 := Lib.hid (below_then HB0.out HB0.out.size HBx.out)
  have HR1 : Hid (ReadsInt w1 .u8 A1 2 [3, 0]) := Lib.hid (own_reads' HV1.out)
  have hc1 : 2 ≤ c1 := (own_cap HV1.out).1
  clear HBx HV1 HB0
  go_wp2_with fail
  refine (deflate_any w1 none 0 0 [] 3 _ rfl (reads_none _) (by simp) (Nat.le_refl _) (by omega) dfx_2).mono ?_
  rintro e w2 ⟨A2, c2, rfl, HV2, HBx⟩
  have HB2 := Lib.hid (below_then HB1.out HB1.out.size HBx.out)
  have HR2 := Lib.hid (HR1.out.below HBx.out)
  clear HBx HV2 HB1 HR1
  go_wp2_with fail
  refine (deflate_any w2 none 0 0 [] (-1) _ rfl (reads_none _) (by simp) (Nat.le_refl _) (by omega) dfx_3).mono ?_
  rintro e w3 ⟨A3, c3, rfl, HV3, HBx⟩
  have HB3 := Lib.hid (below_then HB2.out HB2.out.size HBx.out)
  have HR3 := Lib.hid (HR2.out.below HBx.out)
  clear HBx HV3 HB2 HR2
  go_wp2_with fail
  have hrz : ReadsInt (w3.alloc (.cells (madeCells #[.int .u8 0] L) 5)) .u8 (some ⟨w3.heap.size, 0, none⟩) L z := by
    have h := own_made w3 w3.heap.size 5 .u8 L (Nat.le_refl _) (by omega)
    rw [← HZ.out.2.2.1] at h
    exact own_reads' h
  have HRz := Lib.hid hrz
  have HB4 := Lib.hid (HB3.out.alloc HB3.out.size (.cells (madeCells #[.int .u8 0] L) 5))
  have HR4 := Lib.hid (HR3.out.below (below_alloc (Below.refl _ _) (.cells (madeCells #[.int .u8 0] L) 5)))
  clear hrz HB3 HR3
  generalize w3.alloc (.cells (madeCells #[.int .u8 0] L) 5) = w4 at *
  refine (deflateA_0 w4 (some ⟨w3.heap.size, 0, none⟩) L L z HZ.out.2.2.2.1 HRz.out (Nat.le_refl _) (by omega)).mono ?_
  rintro e w5 ⟨v5, rfl, hv5, hb5⟩
  rw [← HZ.out.2.2.2.2.2] at hv5
  obtain ⟨A5, c5, rfl⟩ := own_slice hv5
  have hbl := HBz.out.1
  obtain ⟨gb, cb', hvb, hbg, hlt⟩ := World.ownsRow.form hv5 (by omega)
  simp only [Value.slice.injEq] at hvb
  obtain ⟨rfl, -, rfl⟩ := hvb
  have hcb0 : w5.cell? ⟨gb, 0, none⟩ = some (.int .u8 0) := by
    rw [World.ownsRow.cellAt hv5 0 (by omega)]
    have h := HBz.out.2.1
    rw [List.getD_eq_getElem?_getD, List.getElem?_eq_getElem (by omega)] at h
    simp only [nums, List.getElem?_map, List.getElem?_eq_getElem (show 0 < B.length by omega), Option.map_some]
    exact congrArg (fun x => some (Value.int .u8 x)) h
  have hcb1 : w5.cell? ⟨gb, 65540, none⟩ = some (.int .u8 1) := by
    rw [World.ownsRow.cellAt hv5 65540 (by omega)]
    have h := HBz.out.2.2
    rw [List.getD_eq_getElem?_getD, List.getElem?_eq_getElem (by omega)] at h
    simp only [nums, List.getElem?_map, List.getElem?_eq_getElem (show 65540 < B.length by omega), Option.map_some]
    exact congrArg (fun x => some (Value.int .u8 x)) h
  have HCB := Lib.hid (And.intro hcb0 (And.intro hcb1 hlt))
  have hBI : (B.length : Int) = 70010 := by omega
  have HB5 := Lib.hid (below_then HB4.out HB4.out.size hb5)
  have HR5 := Lib.hid (HR4.out.below hb5)
  have HRz5 := Lib.hid (HRz.out.below hb5)
  obtain ⟨nb, hnb⟩ : ∃ nb, nb = B.length := ⟨_, rfl⟩
  rw [← hnb] at hBI hbl
  have HNB := Lib.hid hbl
  have hb70 : ((nb : Int) == 70010) = true := by simpa using hBI
  have hb65 : (65540 : Int) < (nb : Int) := by omega
  have hb00 : (0 : Int) < (nb : Int) := by omega
  rw [← hnb]
  clear hv5 hb5 hcb0 hcb1 hlt hbg HB4 HR4 HRz hnb hBI hbl
  go_wp2_with fail
  refine (deflateA_1 w5 (some ⟨w3.heap.size, 0, none⟩) L L z HZ.out.2.2.2.1 HRz5.out HZ.out.2.2.2.2.1 (by omega)).mono ?_
  rintro e w6 ⟨v6, rfl, hv6, hb6⟩
  rw [← HC.out] at hv6
  obtain ⟨A6, c6, rfl⟩ := own_slice hv6
  have HV6 := Lib.hid hv6
  have HB6 := Lib.hid (below_then HB5.out HB5.out.size hb6)
  have HR6 := Lib.hid (HR5.out.below hb6)
  have HRz6 := Lib.hid (HRz5.out.below hb6)
  have HD6 : Hid (Below w5.heap.size w5 w6) := Lib.hid hb6
  clear hv6 hb6 HB5 HR5 HRz5
  go_wp2_with fail
  refine (inflate_any w6 A6 C.length c6 C (L : Int) _ rfl (own_reads' HV6.out) HCB2.out (own_cap HV6.out).1 (by omega) (HO.out.below HB6.out) HINF.out).mono ?_
  rintro e w7 ⟨A7, c7, rfl, HV7, HBi⟩
  have HB7 := Lib.hid (below_then HB6.out HB6.out.size HBi.out)
  have HR7 := Lib.hid (HR6.out.below HBi.out)
  have HRz7 := Lib.hid (HRz6.out.below HBi.out)
  have HD7 := Lib.hid (below_then HD6.out HD6.out.size HBi.out)
  have HR7d : Hid (ReadsInt w7 .u8 A7 z.length z) := Lib.hid (own_reads' HV7.out)
  have HC7 : Hid (z.length ≤ c7) := Lib.hid (own_cap HV7.out).1
  clear HV6 HB6 HR6 HRz6 HD6 HV7 HBi
  go_wp2_with fail
  refine (deflateA_long _ (some ⟨w7.heap.size, 0, none⟩) M M hM1).mono ?_
  rintro e w8 ⟨rfl, rfl⟩
  have HA8 := Lib.hid (below_alloc (Below.refl w7.heap.size w7) (.cells (madeCells #[.int .u8 0] M) 5))
  have HB8 := Lib.hid (below_then HB7.out HB7.out.size HA8.out)
  have HR8 := Lib.hid (HR7.out.below HA8.out)
  have HRz8 := Lib.hid (HRz7.out.below HA8.out)
  have HD8 := Lib.hid (below_then HD7.out HD7.out.size HA8.out)
  have HR8d := Lib.hid (HR7d.out.below HA8.out)
  clear HB7 HR7 HRz7 HD7 HR7d HA8
  generalize w7.alloc (.cells (madeCells #[.int .u8 0] M) 5) = w8 at *
  go_wp2_with fail
  refine (same_yes _ A1 c1 (some ⟨w8.heap.size, 0, none⟩) 2 2 2 [3, 0] rfl rfl (HR8.out.below (below_alloc (Below.refl _ _) _)) (lit_reads w8 [3, 0] (by decide)) hc1 (Nat.le_refl _)).mono ?_
  rintro e wx ⟨rfl, nx, rfl⟩
  have HA9 : Hid (Below w8.heap.size w8 ((w8.alloc (.cells (nums .u8 [3, 0]).toArray 5)).drewN nx)) := Lib.hid (pw_below_drewN (below_alloc (Below.refl _ _) _) nx)
  have HB9 := Lib.hid (below_then HB8.out HB8.out.size HA9.out)
  have HRz9 := Lib.hid (HRz8.out.below HA9.out)
  have HD9 := Lib.hid (below_then HD8.out HD8.out.size HA9.out)
  have HR9d := Lib.hid (HR8d.out.below HA9.out)
  clear HB8 HR8 HRz8 HD8 HR8d HA9
  generalize (w8.alloc (.cells (nums .u8 [3, 0]).toArray 5)).drewN nx = w9 at *
  have k0 : w9.cell? ⟨gb, 0, none⟩ = some (.int .u8 0) := (HD9.out.cell (p := ⟨gb, 0, none⟩) HCB.out.2.2).trans HCB.out.1
  have k1 : w9.cell? ⟨gb, 65540, none⟩ = some (.int .u8 1) := (HD9.out.cell (p := ⟨gb, 65540, none⟩) HCB.out.2.2).trans HCB.out.2.1
  go_wp2_with fail
  refine (same_yes w9 A7 c7 (some ⟨w3.heap.size, 0, none⟩) L z.length L z rfl HZ.out.2.2.2.1 HR9d.out HRz9.out HC7.out (Nat.le_refl _)).mono ?_
  rintro e wx ⟨rfl, ny, rfl⟩
  go_wp2_with fail
  go_ret
  exact ⟨rfl, pw_below_drewN HB9.out ny⟩
end Go.Proofs.YtkdklcamgcmifaaDoor
