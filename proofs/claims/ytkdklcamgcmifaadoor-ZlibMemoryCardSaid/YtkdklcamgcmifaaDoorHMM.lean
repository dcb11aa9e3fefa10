/- codicillaw05.ZlibMemory: walked. -/
import Derived.Test.YtkdklcamgcmifaaDoorHMD
import Derived.Test.YtkdklcamgcmifaaDoorHSmash
namespace Go.Proofs.YtkdklcamgcmifaaDoor
set_option linter.unusedVariables false
set_option linter.unusedSimpArgs false
open Go.RowKit Go.Proofs.YtkdklcamgcmifaaDoorW.PrintWords Go.Proofs.YtkdklcamgcmifaaDoorW.PrintMore Go.Proofs.YtkdklcamgcmifaaDoor.PM
theorem unwrap_any (w : World) (A : Option Addr) (n c : Nat) (l : List Int) (m : Int) (r : List Int × Int × Int) (hn : l.length = n) (hr : ReadsInt w .u8 A n l) (hb : ∀ x ∈ l, 0 ≤ x ∧ x < 256) (hc : n ≤ c) (hl : n ≤ 1000000) (ho : Ord w) (he : unwF l m = r) :
    Calls Tryd.prog 23 #[.slice A n c, .int .i64 m] w fun ee w' =>
      ∃ A' c', ee = .returned (.tuple #[.slice A' r.1.length c', .int .i64 r.2.1, .int .i64 r.2.2]) ∧ Hid (Bs 5 w' w.heap.size (.slice A' r.1.length c') r.1) ∧ Hid (Below w.heap.size w w') := by
  subst hn
  refine (unwrap_calls w A c l m hr hb hc hl ho).mono ?_
  rintro ee w2 ⟨v, rfl, hv, hb2⟩
  rw [he] at hv ⊢
  obtain ⟨A', c', rfl⟩ := own_slice hv.out
  exact ⟨A', c', rfl, hv, hb2⟩
theorem dunwrap_any (w : World) (A : Option Addr) (n c : Nat) (l : List Int) (m : Int) (r : List Int × Int × Int) (hn : l.length = n) (hr : ReadsInt w .u8 A n l) (hb : ∀ x ∈ l, 0 ≤ x ∧ x < 256) (hc : n ≤ c) (hl : n ≤ 1000000) (ho : Ord w) (he : unwF l m = r) :
    Calls Tryd.prog 26 #[.slice A n c, .int .i64 m] w fun ee w' =>
      ∃ A' c', ee = .returned (.tuple #[.slice A' r.1.length c', .int .i64 r.2.1, .int .i64 r.2.2]) ∧ Hid (Bs 5 w' w.heap.size (.slice A' r.1.length c') r.1) ∧ Hid (Below w.heap.size w w') := by
  subst hn
  refine (dunwrap_calls w A c l m hr hb hc hl ho).mono ?_
  rintro ee w2 ⟨v, rfl, hv, hb2⟩
  rw [he] at hv ⊢
  obtain ⟨A', c', rfl⟩ := own_slice hv.out
  exact ⟨A', c', rfl, hv, hb2⟩
theorem kept_yes5 (w : World) (A : Option Addr) (c : Nat) (l : List Int) (g cap : Nat) (hl : ReadsInt w .u8 A l.length l) (hc : l.length ≤ c) (hm : l.length ≤ 60000) (hf : ReadsInt w .u8 (some ⟨g, 0, none⟩) (l.length + 4) (l ++ [41, 42, 43, 44])) (hcap : l.length + 4 ≤ cap) :
    Calls Tryd.prog 18 #[.slice A l.length c, .slice (some ⟨g, 0, none⟩) (l.length + 4) cap] w fun e w' => e = .returned (.bool true) ∧ Hid (Below w.heap.size w w') := by
  have hlen4 : (l ++ [41, 42, 43, 44] : List Int).length = l.length + 4 := by simp
  have HK : codicilref01_Kept.f l (l ++ [41, 42, 43, 44]) = some true := by
    unfold codicilref01_Kept.f
    rw [if_pos ⟨rfl, by simp; omega⟩]
  have hk := codicilref01_Kept.calls A c l (some ⟨g, 0, none⟩) cap (l ++ [41, 42, 43, 44]) true w (toC hl) hc (toC (by rw [hlen4]; exact hf)) (by rw [hlen4]; exact hcap) HK
  rw [hlen4] at hk
  exact hk.mono fun e w' h => ⟨h.1, Lib.hid h.2⟩
theorem reads_nums {w : World} {base n c : Nat} {A : Option Addr} {l : List Int} (hn : n = l.length) (h : w.ownsRow base 5 1 (.slice A n c) n (nums .u8 l)) : ReadsInt w .u8 A n l := by
  subst hn
  exact own_reads' h
set_option maxRecDepth 100000 in
set_option maxHeartbeats 8000000 in
theorem zlibMemory_card (w : World) (A : Option Addr) (c : Nat) (l : List Int) (hl : ReadsInt w .u8 A l.length l) (hby : ∀ x ∈ l, 0 ≤ x ∧ x < 256) (hc : l.length ≤ c) (ho : Ord w) :
    Calls Tryd.prog 11 #[.slice A l.length c] w fun e w' => e = .returned (.bool true) ∧ Below w.heap.size w w' := by
  have HL := Lib.hid hl
  have HBY := Lib.hid hby
  have HO := Lib.hid ho
  have HC := Lib.hid hc
  have HAW := Lib.hid (show codicillaw05_awake.f = some true from rfl)
  clear hl hby ho hc
  by_cases hbig : 2000 < l.length
  · have hbI : (l.length : Int) > 2000 := by omega
    go_enter Tryd.func11, Tryd.ntmps11
    go_wp2_with fail
    refine (codicillaw05_awake.calls true _ HAW.out).mono ?_
    rintro e w0 ⟨rfl, hb0⟩
    have HB0 := Lib.hid hb0
    clear hb0
    go_wp2_with fail
    go_ret
    exact ⟨rfl, HB0.out⟩
  have hbI : ¬ (l.length : Int) > 2000 := by omega
  have HM := Lib.hid (show l.length ≤ 2000 by omega)
  obtain ⟨r, hr⟩ : ∃ r, unwF l 5000 = r := ⟨_, rfl⟩
  have HR := Lib.hid hr
  obtain ⟨z, hz⟩ : ∃ z, wrapL l 2 = z := ⟨_, rfl⟩
  have HZ := Lib.hid hz
  clear hr hz hbig
  go_enter Tryd.func11, Tryd.ntmps11
  go_wp2_with fail
  refine (codicillaw05_awake.calls true _ HAW.out).mono ?_
  rintro e w0 ⟨rfl, hb0⟩
  have HB0 := Lib.hid hb0
  clear hb0
  go_wp2_with fail
  refine (spare_calls _ _ l _ (HL.out.below HB0.out) (by have := HM.out; omega)).mono ?_
  rintro e w1 ⟨g, cap, rfl, hf1, hb1⟩
  have hfo : w1.ownsRow w0.heap.size 5 1 (.slice (some ⟨g, 0, none⟩) (l.length + 4) cap) (l.length + 4) (nums .u8 (l ++ [41, 42, 43, 44])) := by simpa [Bs] using hf1
  have HFO := Lib.hid hfo
  have HX1 : Hid (ReadsInt w1 .u8 (some ⟨g, 0, none⟩) l.length l) := Lib.hid (by
    have h := (own_reads' hfo).take_ l.length (by omega)
    simpa using h)
  have HB1 := Lib.hid hb1
  have HW1 := Lib.hid (below_then HB0.out HB0.out.size hb1)
  have HCAP : Hid (l.length + 4 ≤ cap) := Lib.hid (own_cap HFO.out).1
  clear hf1 hb1 hfo
  go_wp2_with fail
  refine (wrapM_calls w1 _ l.length cap l rfl HX1.out HBY.out (by have := HCAP.out; omega) (by have := HM.out; omega) z HZ.out).mono ?_
  rintro e w2 ⟨Aa, ca, rfl, ha, hb2⟩
  have HA := Lib.hid ha.out
  have HB2 := Lib.hid hb2.out
  clear ha hb2
  go_wp2_with fail
  refine (wrapM_calls w2 _ l.length cap l rfl (HX1.out.below HB2.out) HBY.out (by have := HCAP.out; omega) (by have := HM.out; omega) z HZ.out).mono ?_
  rintro e w3 ⟨Ab, cb, rfl, hb', hb3⟩
  have HBB := Lib.hid hb'.out
  have HB3 := Lib.hid hb3.out
  have HB13 := Lib.hid (below_then HB2.out HB2.out.size HB3.out)
  have HW3 := Lib.hid (below_then HW1.out HW1.out.size HB13.out)
  clear hb' hb3
  go_wp2_with fail
  refine (unwrap_any w3 _ l.length cap l 5000 r rfl (HX1.out.below HB13.out) HBY.out (by have := HCAP.out; omega) (by have := HM.out; omega) (HO.out.below HW3.out) HR.out).mono ?_
  rintro e w4 ⟨Ac, cc, rfl, hc', hb4⟩
  have HCC := Lib.hid hc'.out
  have HB4 := Lib.hid hb4.out
  have HB14 := Lib.hid (below_then HB13.out HB13.out.size HB4.out)
  have HW4 := Lib.hid (below_then HW1.out HW1.out.size HB14.out)
  clear hc' hb4
  go_wp2_with fail
  refine (unwrap_any w4 _ l.length cap l 5000 r rfl (HX1.out.below HB14.out) HBY.out (by have := HCAP.out; omega) (by have := HM.out; omega) (HO.out.below HW4.out) HR.out).mono ?_
  rintro e w6 ⟨Ad, cd, rfl, hd', hb5⟩
  have HDD := Lib.hid hd'.out
  have HB5 := Lib.hid hb5.out
  have HB16 := Lib.hid (below_then HB14.out HB14.out.size HB5.out)
  have HW6' := Lib.hid (below_then HW1.out HW1.out.size HB16.out)
  clear hd' hb5
  go_wp2_with fail
  refine (kept_yes5 w6 A c l g cap (HL.out.below HW6'.out) HC.out (by have := HM.out; omega) (by
    have h := own_reads' (pw_own_below HFO.out HB16.out)
    exact h) HCAP.out).mono ?_
  rintro e w7 ⟨rfl, hb7⟩
  have HB7 := Lib.hid hb7.out
  clear hb7
  obtain ⟨zn, hzn⟩ : ∃ zn, zn = z.length := ⟨_, rfl⟩
  obtain ⟨rn, hrn⟩ : ∃ rn, rn = r.1.length := ⟨_, rfl⟩
  rw [← hzn] at HA HBB ⊢
  rw [← hrn] at HCC HDD ⊢
  have HZN := Lib.hid hzn
  have HRN := Lib.hid hrn
  clear hzn hrn
  have HA' : Hid (w2.ownsRow w1.heap.size 5 1 (.slice Aa zn ca) zn (nums .u8 z)) := Lib.hid (by have h := HA.out; unfold Bs at h; rw [← HZN.out] at h; exact h)
  have HBB' : Hid (w3.ownsRow w2.heap.size 5 1 (.slice Ab zn cb) zn (nums .u8 z)) := Lib.hid (by have h := HBB.out; unfold Bs at h; rw [← HZN.out] at h; exact h)
  have HCC' : Hid (w4.ownsRow w3.heap.size 5 1 (.slice Ac rn cc) rn (nums .u8 r.1)) := Lib.hid (by have h := HCC.out; unfold Bs at h; rw [← HRN.out] at h; exact h)
  have HDD' : Hid (w6.ownsRow w4.heap.size 5 1 (.slice Ad rn cd) rn (nums .u8 r.1)) := Lib.hid (by have h := HDD.out; unfold Bs at h; rw [← HRN.out] at h; exact h)
  clear HA HBB HCC HDD
  go_wp2_with fail
  obtain ⟨vs, hvs⟩ : ∃ vs : List Value, vs = [.slice (some ⟨g, 0, none⟩) (l.length + 4) cap, .slice Aa zn ca, .slice Ac rn cc] := ⟨_, rfl⟩
  have h67 : Below w6.heap.size w6 w7 := HB7.out
  have h46 : Below w4.heap.size w4 w7 := below_then HB5.out HB5.out.size h67
  have h36 : Below w3.heap.size w3 w7 := below_then HB4.out HB4.out.size h46
  have h26 : Below w2.heap.size w2 w7 := below_then HB3.out HB3.out.size h36
  have h16 : Below w1.heap.size w1 w7 := below_then HB2.out HB2.out.size h26
  have h06 : Below w0.heap.size w0 w7 := below_then HB1.out HB1.out.size h16
  have hw6 : Below w.heap.size w w7 := below_then HB0.out HB0.out.size h06
  have hall : OwnAll 5 w7 vs := by
    subst hvs
    intro v hv
    simp only [List.mem_cons, List.not_mem_nil, or_false] at hv
    rcases hv with rfl | rfl | rfl
    · exact ⟨_, _, _, pw_own_below HFO.out h16⟩
    · exact ⟨_, _, _, pw_own_below HA'.out h26⟩
    · exact ⟨_, _, _, pw_own_below HCC'.out h46⟩
  have hge : ∀ k, k ∈ blocksOf vs → w.heap.size ≤ k := by
    subst hvs
    intro k hk
    obtain ⟨v, hv, hb⟩ := mem_blocksOf.1 hk
    have s0 := HB0.out.size
    have s1 := HB1.out.size
    have s2 := HB2.out.size
    have s3 := HB3.out.size
    have s4 := HB4.out.size
    simp only [List.mem_cons, List.not_mem_nil, or_false] at hv
    rcases hv with rfl | rfl | rfl
    · have := own_base HFO.out k hb; omega
    · have := own_base HA'.out k hb; omega
    · have := own_base HCC'.out k hb; omega
  have hlt : ∀ k, k ∈ blocksOf vs → k < w7.heap.size := by
    intro k hk
    obtain ⟨v, hv, hb⟩ := mem_blocksOf.1 hk
    obtain ⟨_, _, _, ho⟩ := hall v hv
    exact own_lt ho k hb
  have hbn : ∀ k, Value.ownBlock (.slice Ab zn cb) = some k → k ∉ blocksOf vs := by
    subst hvs
    intro k hk hm
    obtain ⟨v, hv, hb⟩ := mem_blocksOf.1 hm
    have b1 := own_base HBB'.out k hk
    have b2 := own_lt HBB'.out k hk
    have s2 := HB2.out.size
    simp only [List.mem_cons, List.not_mem_nil, or_false] at hv
    rcases hv with rfl | rfl | rfl
    · have := own_lt HFO.out k hb; omega
    · have := own_lt HA'.out k hb; omega
    · have := own_base HCC'.out k hb; omega
  have hdn : ∀ k, Value.ownBlock (.slice Ad rn cd) = some k → k ∉ blocksOf vs := by
    subst hvs
    intro k hk hm
    obtain ⟨v, hv, hb⟩ := mem_blocksOf.1 hm
    have b1 := own_base HDD'.out k hk
    have s2 := HB2.out.size
    have s3 := HB3.out.size
    have s4 := HB4.out.size
    simp only [List.mem_cons, List.not_mem_nil, or_false] at hv
    rcases hv with rfl | rfl | rfl
    · have := own_lt HFO.out k hb; omega
    · have := own_lt HA'.out k hb; omega
    · have := own_lt HCC'.out k hb; omega
  have hob7 := pw_own_below HBB'.out h36
  have hod7 := pw_own_below HDD'.out h67
  have HVS := Lib.hid hvs
  have HALL := Lib.hid hall
  have HGE := Lib.hid hge
  have HLT := Lib.hid hlt
  have HBN := Lib.hid hbn
  have HDN := Lib.hid hdn
  have HOB := Lib.hid hob7
  have HOD := Lib.hid hod7
  have HW6 := Lib.hid hw6
  clear hvs hall hge hlt hbn hdn hob7 hod7 hw6 h06 h16 h26 h36 h46 h67
  go_loopw [62] (fun i wr => ∃ k : Nat, k ≤ 3 ∧ i = .int .i64 k ∧ Smash 5 (blocksOf vs) (w7.alloc (.cells vs.toArray 22)) wr) (fun i _ => 3 - (intOf i).toNat)
  case atStart =>
    refine ⟨0, by omega, rfl, ?_⟩
    have h : OwnAll 5 (w7.alloc (.cells vs.toArray 22)) vs := fun v hv => by
      obtain ⟨a, b, c, ho⟩ := HALL.out v hv
      exact ⟨a, b, c, ho.alloc _⟩
    have h2 := h.smash
    rw [HVS.out] at h2 ⊢
    exact h2
  case round =>
    obtain ⟨k, hk, rfl, hS⟩ := hrel
    have HS := Lib.hid hS
    clear hS
    obtain ⟨wo, rfl⟩ : ∃ wo : World, wo = wr := ⟨_, rfl⟩
    by_cases hlt : k < 3
    · obtain ⟨An, nn, cn, e1, e2, e3⟩ := HALL.out.may k (by rw [HVS.out]; simpa using hlt)
      have hcell : wo.cell? ⟨w7.heap.size, k, none⟩ = some (.slice An nn cn) := by
        rw [HS.out.cell_far (heap_alloc_new w7 _) (fun hm => by have := HLT.out _ hm; omega)]
        simpa using e1
      have E3 := Lib.hid e3
      clear e1 e3
      go_wp2_with fail
      go_loopw [68] (fun i wr => ∃ j : Nat, j ≤ nn ∧ i = .int .i64 j ∧ Smash 5 (blocksOf vs) (w7.alloc (.cells vs.toArray 22)) wr) (fun i _ => nn - (intOf i).toNat)
      case atStart => exact ⟨0, by omega, rfl, HS.out⟩
      case round =>
        obtain ⟨j, hj, rfl, hT⟩ := hrel
        have HT := Lib.hid hT
        clear hT hcell
        by_cases hjl : j < nn
        · obtain ⟨gn, hAn, hgn, hln⟩ := E3.out (by omega)
          subst hAn
          have hln' : nn ≤ blockLen (w7.alloc (.cells vs.toArray 22)) gn := by
            have : (w7.alloc (.cells vs.toArray 22)).heap[gn]? = w7.heap[gn]? := Below.heap_alloc w7 _ gn (HLT.out _ hgn)
            unfold blockLen at hln ⊢
            rw [this]
            exact hln
          obtain ⟨u0, hu1, hu2⟩ := HT.out.cell hgn (Nat.lt_of_lt_of_le hjl hln')
          clear hln hln'
          go_wp2_with fail
          go_roundw
          case rel => exact ⟨j + 1, hjl, by go_num, HT.out.set hgn _ _⟩
          case measure => simp [intOf]; omega
        · go_wp2_with fail
          go_roundw
          case rel => exact ⟨k + 1, hlt, by go_num, HT.out⟩
          case measure => simp [intOf]; omega
    · go_wp2_with fail
      have hbl : Below w.heap.size w wo := HS.out.below (HW6.out.alloc HW6.out.size _) HGE.out
      have hob := HS.out.own (HOB.out.alloc (.cells vs.toArray 22)) HBN.out
      have hod := HS.out.own (HOD.out.alloc (.cells vs.toArray 22)) HDN.out
      have HBL := Lib.hid hbl
      have HOBW := Lib.hid hob
      have HODW := Lib.hid hod
      clear hbl hob hod
      refine (dunwrap_any wo A l.length c l 5000 r rfl (HL.out.below HBL.out) HBY.out HC.out (by have := HM.out; omega) (HO.out.below HBL.out) HR.out).mono ?_
      rintro e wz ⟨Az, cz, rfl, oz, hbz⟩
      have HOZ := Lib.hid oz.out
      have HBZ := Lib.hid (below_then HBL.out HBL.out.size hbz.out)
      have HOBZ := Lib.hid (pw_own_below HOBW.out hbz.out)
      have HODZ := Lib.hid (pw_own_below HODW.out hbz.out)
      clear oz hbz
      go_wp2_with fail
      refine (wrapR_calls wz A l.length c l rfl (HL.out.below HBZ.out) HBY.out HC.out (by have := HM.out; omega) z HZ.out).mono ?_
      rintro e wx ⟨Ax, cx, rfl, ox, hbx⟩
      have HOX := Lib.hid ox.out
      have HBX := Lib.hid (below_then HBZ.out HBZ.out.size hbx.out)
      have HOBX := Lib.hid (pw_own_below HOBZ.out hbx.out)
      have HODX := Lib.hid (pw_own_below HODZ.out hbx.out)
      have HOZX := Lib.hid (pw_own_below HOZ.out hbx.out)
      clear ox hbx
      go_wp2_with fail
      refine (same_yes wx Ab cb Ax cx zn z.length z HZN.out.symm rfl (reads_nums HZN.out HOBX.out) (own_reads' HOX.out) (own_cap HOBX.out).1 (own_cap HOX.out).1).mono ?_
      rintro e wy ⟨rfl, n9, rfl⟩
      have HBY9 := Lib.hid (pw_below_drewN HBX.out n9)
      have HODY := Lib.hid (pw_own_below HODX.out (pw_below_drewN (Below.refl _ _) n9))
      have HOZY := Lib.hid (pw_own_below HOZX.out (pw_below_drewN (Below.refl _ _) n9))
      generalize wx.drewN n9 = wy at *
      go_wp2_with fail
      refine (same_yes wy Ad cd Az cz rn r.1.length r.1 HRN.out.symm rfl (reads_nums HRN.out HODY.out) (own_reads' HOZY.out) (own_cap HODY.out).1 (own_cap HOZY.out).1).mono ?_
      rintro e wv ⟨rfl, n10, rfl⟩
      go_wp2_with fail
      go_ret
      exact ⟨rfl, pw_below_drewN HBY9.out n10⟩
end Go.Proofs.YtkdklcamgcmifaaDoor
