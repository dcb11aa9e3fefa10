-- Written by fprint.py, a program of this session, over the translation. Not trusted: Lean checks it.
import Derived.Test.YtkdklcamgcmifaaPDWx0
import Derived.Test.YtkdklcamgcmifaaPDWx1
import Derived.Test.YtkdklcamgcmifaaPDWx2
import Derived.Test.YtkdklcamgcmifaaPDWx4
namespace Go.Proofs.Ytkdklcamgcmifaa.PDW
open Go.RowKit Go.Proofs.YtkdklcamgcmifaaW.PrintWords Go.Proofs.YtkdklcamgcmifaaW.PrintLast Go.Proofs.YtkdklcamgcmifaaW.PrintMore
attribute [local go_sem] max2_int min2_int max_two min_two max_three min_three max_four min_four   -- for this text's walks alone
set_option linter.unusedVariables false
set_option linter.unusedSimpArgs false

/-! ### codicilref01_Kept: function 19 -/
def codicilref01_Kept.f (l0 : List Int) (l1 : List Int) : Option (Bool) := if l1 = l0 ++ [41, 42, 43, 44] ∧ l1.length ≤ 9223372036854775807 then some true else none
set_option maxHeartbeats 1000000 in
theorem codicilref01_Kept.calls (A0 : Option Addr) (c0 : Nat) (l0 : List Int) (A1 : Option Addr) (c1 : Nat) (l1 : List Int) (r : Bool) (w : World) (hr0 : Kd.C (Kd.int .u8) w A0 l0.length l0) (hc0 : l0.length ≤ c0) (hr1 : Kd.C (Kd.int .u8) w A1 l1.length l1) (hc1 : l1.length ≤ c1) (h : codicilref01_Kept.f l0 l1 = some r) :
    Calls Try.prog 19 #[.slice A0 l0.length c0, .slice A1 l1.length c1] w fun e w' => e = .returned (.bool r) ∧ Below w.heap.size w w' := by
  unfold codicilref01_Kept.f at h
  split at h
  · rename_i hb
    obtain rfl := Option.some.inj h
    obtain ⟨he, hlm⟩ := hb
    have hlen : l1.length = l0.length + 4 := by rw [he]; simp
    have HR0 := Lib.hid hr0
    have HR1 := Lib.hid (Kd.reads_of_C (enc := Value.int .u8) (d := 0) hr1)
    have HE := Lib.hid he
    clear hr0 hr1 he h
    rw [hlen] at hc1 hlm
    rw [hlen]
    have h1 : (((l0.length : Int) + 4) == ((l0.length : Int) + 4)) = true := by simp
    have e1 : l1.take l0.length = l0 := by rw [HE.out]; simp
    have e2 : l1.drop l0.length = [41, 42, 43, 44] := by rw [HE.out]; simp
    obtain ⟨i011, hi011, _, hsz11, _⟩ := info_parts infoU8
    have hr1' := HR1.out
    rw [hlen] at hr1'
    obtain ⟨A2, hcut, hA2⟩ := print_cut_of (P := Try.prog) (Value.int .u8) 0 22 5 .i64 Try.underlying22 hi011 hsz11 A1 (l0.length + 4) c1 l0.length (by omega)
    have hr2 := hA2 w l1 hc1 hr1'
    rw [show l0.length + 4 - l0.length = 4 from by omega, e2] at hr2
    rw [show l0.length + 4 - l0.length = 4 from by omega] at hcut
    have hrt : ReadsOf (Value.int .u8) 0 w A1 l0.length l0 := by
      have h := hr1'.take_ l0.length (by omega)
      rwa [e1] at h
    have HT := Lib.hid hrt
    have H2 := Lib.hid hr2
    clear hrt hr2 hA2 hr1' e1 e2 hlen hi011 hsz11
    have hs1 : codicilref01_Same.f l0 l0 = some true := by simp [codicilref01_Same.f]
    have hs2 : codicilref01_Same.f [41, 42, 43, 44] [41, 42, 43, 44] = some true := by simp [codicilref01_Same.f]
    have HS1 := Lib.hid hs1
    have HS2 := Lib.hid hs2
    clear hs1 hs2
    go_enter Try.func19, Try.ntmps19
    go_wp2_with fail
    refine (codicilref01_Same.calls _ _ l0 _ _ l0 true _ (Kd.C_of_reads HT.out) (by omega) HR0.out hc0 HS1.out).mono ?_
    rintro e w1 ⟨rfl, hd⟩
    obtain ⟨n1, rfl⟩ := hd.out
    go_wp2_with fail
    refine (codicilref01_Same.calls A2 _ [41, 42, 43, 44] _ _ [41, 42, 43, 44] true _ (Kd.C_of_reads (H2.out.below ?_)) (by simp; omega) (toC ?_) (by simp) HS2.out).mono ?_
    · exact below_alloc (pw_below_drewN (Below.refl _ _) _) _
    · exact own_reads' (own_lit (w.drewN n1) _ 5 .u8 [41, 42, 43, 44] (Nat.le_refl _) (by simp))
    rintro e w1 ⟨rfl, hd⟩
    obtain ⟨n2, rfl⟩ := hd.out
    go_wp2_with fail
    go_ret
    exact ⟨rfl, pw_below_drewN (below_alloc (pw_below_drewN (Below.refl _ _) _) _) _⟩
  · cases h


/-! ### codicillaw04_DeflateMemory: function 6 -/
def codicillaw04_DeflateMemory.Pure : Prop := True
theorem docD_0 (l : List Int) : docD l 0 = (storedB l, 0) := by unfold docD; rw [if_neg (by omega), if_pos rfl]
theorem docD_1 (l : List Int) : docD l 1 = (fixedB l, 0) := by unfold docD; rw [if_neg (by omega), if_neg (by omega), if_neg (by omega)]
theorem deflate_calls0 (w : World) (A : Option Addr) (c : Nat) (l : List Int) (hl : ReadsInt w .u8 A l.length l) (hc : l.length ≤ c) (hby : ∀ x ∈ l, 0 ≤ x ∧ x < 256) (hm : l.length ≤ 60000) :
    Calls Try.prog 15 #[.slice A l.length c, .int .i64 0] w fun e w' => ∃ v, e = .returned (.tuple #[v, .int .i64 0]) ∧ Bs 5 w' w.heap.size v (storedB l) ∧ Below w.heap.size w w' := by
  have h := deflate_calls w A c l 0 hl hc hby hm
  rw [docD_0] at h
  exact h
theorem deflate_calls1 (w : World) (A : Option Addr) (c : Nat) (l : List Int) (hl : ReadsInt w .u8 A l.length l) (hc : l.length ≤ c) (hby : ∀ x ∈ l, 0 ≤ x ∧ x < 256) (hm : l.length ≤ 60000) :
    Calls Try.prog 15 #[.slice A l.length c, .int .i64 1] w fun e w' => ∃ v, e = .returned (.tuple #[v, .int .i64 0]) ∧ Bs 5 w' w.heap.size v (fixedB l) ∧ Below w.heap.size w w' := by
  have h := deflate_calls w A c l 1 hl hc hby hm
  rw [docD_1] at h
  exact h
set_option maxHeartbeats 4000000 in
set_option maxRecDepth 100000 in
theorem deflateMemory_calls (A : Option Addr) (c : Nat) (l : List Int) (w : World) (hl : ReadsInt w .u8 A l.length l) (hc : l.length ≤ c) (hby : ∀ x ∈ l, 0 ≤ x ∧ x < 256) :
    Calls Try.prog 6 #[.slice A l.length c] w fun e w' => e = .returned (.bool true) ∧ Below w.heap.size w w' := by
  have HL := Lib.hid hl
  have HBY := Lib.hid hby
  have HAW := Lib.hid (show codicillaw04_awake.f = some true from rfl)
  clear hl hby
  by_cases hbig : 2000 < l.length
  · have hbI : (l.length : Int) > 2000 := by omega
    go_enter Try.func6, Try.ntmps6
    go_wp2_with fail
    refine (codicillaw04_awake.calls true _ HAW.out).mono ?_
    rintro e w0 ⟨rfl, hb0⟩
    have HB0 := Lib.hid hb0
    clear hb0
    go_wp2_with fail
    go_ret
    exact ⟨rfl, HB0.out⟩
  have hm : l.length ≤ 60000 := by omega
  have hbI : ¬ (l.length : Int) > 2000 := by omega
  go_enter Try.func6, Try.ntmps6
  go_wp2_with fail
  refine (codicillaw04_awake.calls true _ HAW.out).mono ?_
  rintro e w0 ⟨rfl, hb0⟩
  have HB0 := Lib.hid hb0
  clear hb0
  go_wp2_with fail
  refine (spare_calls _ _ l _ (HL.out.below HB0.out) (by omega)).mono ?_
  rintro e w1 ⟨g, cap, rfl, hf1, hb1⟩
  have HF := Lib.hid hf1
  have hfo : w1.ownsRow w0.heap.size 5 1 (.slice (some ⟨g, 0, none⟩) (l.length + 4) cap) (l.length + 4) (nums .u8 (l ++ [41, 42, 43, 44])) := by simpa [Bs] using hf1
  have HFO := Lib.hid hfo
  have hx : ReadsInt w1 .u8 (some ⟨g, 0, none⟩) l.length l := by
    have h := (own_reads' hfo).take_ l.length (by omega)
    simpa using h
  have HX1 := Lib.hid hx
  have HB1 := Lib.hid hb1
  have hcap : l.length + 4 ≤ cap := (own_cap HFO.out).1
  clear hf1 hx hb1 hfo
  go_wp2_with fail
  refine (deflate_calls1 _ _ _ l HX1.out (by omega) HBY.out hm).mono ?_
  rintro e w2 ⟨ra, rfl, ha, hb2⟩
  have HA := Lib.hid ha
  have HB2 := Lib.hid hb2
  clear ha hb2
  go_wp2_with fail
  refine (deflate_calls1 _ _ _ l (HX1.out.below HB2.out) (by omega) HBY.out hm).mono ?_
  rintro e w3 ⟨rb, rfl, hb', hb3⟩
  have HBB := Lib.hid hb'
  have HB3 := Lib.hid hb3
  clear hb' hb3
  have HB13 := Lib.hid (below_then HB2.out HB2.out.size HB3.out)
  go_wp2_with fail
  refine (deflate_calls0 _ _ _ l (HX1.out.below HB13.out) (by omega) HBY.out hm).mono ?_
  rintro e w4 ⟨rc, rfl, hc', hb4⟩
  have HC := Lib.hid hc'
  have HB4 := Lib.hid hb4
  clear hc' hb4
  have HB14 := Lib.hid (below_then HB13.out HB13.out.size HB4.out)
  go_wp2_with fail
  refine (deflate_calls0 _ _ _ l (HX1.out.below HB14.out) (by omega) HBY.out hm).mono ?_
  rintro e w6 ⟨rd, rfl, hd', hb5⟩
  have HD := Lib.hid hd'
  have HB5 := Lib.hid hb5
  clear hd' hb5
  have HB16 := Lib.hid (below_then HB14.out HB14.out.size HB5.out)
  have HB06 := Lib.hid (below_then HB1.out HB1.out.size HB16.out)
  have HBW6 := Lib.hid (below_then HB0.out HB0.out.size HB06.out)
  go_wp2_with fail
  have HK : Hid (codicilref01_Kept.f l (l ++ [41, 42, 43, 44]) = some true) := by
    unfold codicilref01_Kept.f
    rw [if_pos ⟨rfl, by simp; omega⟩]
    exact rfl
  have hfr : ReadsInt w6 .u8 (some ⟨g, 0, none⟩) (l ++ [41, 42, 43, 44]).length (l ++ [41, 42, 43, 44]) := by
    have h := own_reads' (pw_own_below HFO.out HB16.out)
    simpa using h
  have HFR := Lib.hid hfr
  clear hfr
  have hk := codicilref01_Kept.calls A c l (some ⟨g, 0, none⟩) cap (l ++ [41, 42, 43, 44]) true w6 (toC (HL.out.below HBW6.out)) hc (toC HFR.out) (by simp; omega) HK.out
  have hlen4 : (l ++ [41, 42, 43, 44] : List Int).length = l.length + 4 := by simp
  rw [hlen4] at hk
  clear hlen4
  refine hk.mono ?_
  rintro e w7 ⟨rfl, hb7⟩
  have HB7 := Lib.hid hb7
  clear hb7 hk
  obtain ⟨Aa, na, ca, rfl, oa, _⟩ := HA.out.open_
  obtain ⟨Ab, nb, cb, rfl, ob, hnb⟩ := HBB.out.open_
  obtain ⟨Ac, nc, cc, rfl, oc, _⟩ := HC.out.open_
  obtain ⟨Ad, nd, cd, rfl, od, hnd⟩ := HD.out.open_
  go_wp2_with fail
  obtain ⟨vs, hvs⟩ : ∃ vs : List Value, vs = [.slice (some ⟨g, 0, none⟩) (l.length + 4) cap, .slice Aa na ca, .slice Ac nc cc] := ⟨_, rfl⟩
  have h67 : Below w6.heap.size w6 w7 := HB7.out
  have h46 : Below w4.heap.size w4 w7 := below_then HB5.out HB5.out.size h67
  have h36 : Below w3.heap.size w3 w7 := below_then HB4.out HB4.out.size h46
  have h26 : Below w2.heap.size w2 w7 := below_then HB3.out HB3.out.size h36
  have h16 : Below w1.heap.size w1 w7 := below_then HB2.out HB2.out.size h26
  have h06 : Below w0.heap.size w0 w7 := below_then HB1.out HB1.out.size h16
  have hw6 : Below w.heap.size w w7 := below_then HB0.out HB0.out.size h06
  have hall : OwnAll 5 w7 vs := by
    subst hvs
    intro v hv
    simp only [List.mem_cons, List.not_mem_nil, or_false] at hv
    rcases hv with rfl | rfl | rfl
    · exact ⟨_, _, _, pw_own_below HFO.out h16⟩
    · exact ⟨_, _, _, pw_own_below oa.out h26⟩
    · exact ⟨_, _, _, pw_own_below oc.out h46⟩
  have hge : ∀ k, k ∈ blocksOf vs → w.heap.size ≤ k := by
    subst hvs
    intro k hk
    obtain ⟨v, hv, hb⟩ := mem_blocksOf.1 hk
    have s0 := HB0.out.size
    have s1 := HB1.out.size
    have s2 := HB2.out.size
    have s3 := HB3.out.size
    have s4 := HB4.out.size
    simp only [List.mem_cons, List.not_mem_nil, or_false] at hv
    rcases hv with rfl | rfl | rfl
    · have := own_base HFO.out k hb; omega
    · have := own_base oa.out k hb; omega
    · have := own_base oc.out k hb; omega
  have hlt : ∀ k, k ∈ blocksOf vs → k < w7.heap.size := by
    intro k hk
    obtain ⟨v, hv, hb⟩ := mem_blocksOf.1 hk
    obtain ⟨_, _, _, ho⟩ := hall v hv
    exact own_lt ho k hb
  have hbn : ∀ k, Value.ownBlock (.slice Ab nb cb) = some k → k ∉ blocksOf vs := by
    subst hvs
    intro k hk hm
    obtain ⟨v, hv, hb⟩ := mem_blocksOf.1 hm
    have b1 := own_base ob.out k hk
    have b2 := own_lt ob.out k hk
    have s2 := HB2.out.size
    simp only [List.mem_cons, List.not_mem_nil, or_false] at hv
    rcases hv with rfl | rfl | rfl
    · have := own_lt HFO.out k hb; omega
    · have := own_lt oa.out k hb; omega
    · have := own_base oc.out k hb; omega
  have hdn : ∀ k, Value.ownBlock (.slice Ad nd cd) = some k → k ∉ blocksOf vs := by
    subst hvs
    intro k hk hm
    obtain ⟨v, hv, hb⟩ := mem_blocksOf.1 hm
    have b1 := own_base od.out k hk
    have s2 := HB2.out.size
    have s3 := HB3.out.size
    have s4 := HB4.out.size
    simp only [List.mem_cons, List.not_mem_nil, or_false] at hv
    rcases hv with rfl | rfl | rfl
    · have := own_lt HFO.out k hb; omega
    · have := own_lt oa.out k hb; omega
    · have := own_lt oc.out k hb; omega
  have hob7 := pw_own_below ob.out h36
  have hod7 := pw_own_below od.out h67
  have HVS := Lib.hid hvs
  have HALL := Lib.hid hall
  have HGE := Lib.hid hge
  have HLT := Lib.hid hlt
  have HBN := Lib.hid hbn
  have HDN := Lib.hid hdn
  have HOB := Lib.hid hob7
  have HOD := Lib.hid hod7
  have HW6 := Lib.hid hw6
  clear hvs hall hge hlt hbn hdn hob7 hod7 hw6 h06 h16 h26 h36 h46 h67
  go_loopw [55] (fun i wr => ∃ k : Nat, k ≤ 3 ∧ i = .int .i64 k ∧ Smash 5 (blocksOf vs) (w7.alloc (.cells vs.toArray 22)) wr) (fun i _ => 3 - (intOf i).toNat)
  case atStart =>
    refine ⟨0, by omega, rfl, ?_⟩
    have h : OwnAll 5 (w7.alloc (.cells vs.toArray 22)) vs := fun v hv => by
      obtain ⟨a, b, c, ho⟩ := HALL.out v hv
      exact ⟨a, b, c, ho.alloc _⟩
    have h2 := h.smash
    rw [HVS.out] at h2 ⊢
    exact h2
  case round =>
    obtain ⟨k, hk, rfl, hS⟩ := hrel
    have HS := Lib.hid hS
    clear hS
    obtain ⟨wo, rfl⟩ : ∃ wo : World, wo = wr := ⟨_, rfl⟩
    by_cases hlt : k < 3
    · obtain ⟨An, nn, cn, e1, e2, e3⟩ := HALL.out.may k (by rw [HVS.out]; simpa using hlt)
      have hcell : wo.cell? ⟨w7.heap.size, k, none⟩ = some (.slice An nn cn) := by
        rw [HS.out.cell_far (heap_alloc_new w7 _) (fun hm => by have := HLT.out _ hm; omega)]
        simpa using e1
      have E3 := Lib.hid e3
      clear e1 e3
      go_wp2_with fail
      go_loopw [61] (fun i wr => ∃ j : Nat, j ≤ nn ∧ i = .int .i64 j ∧ Smash 5 (blocksOf vs) (w7.alloc (.cells vs.toArray 22)) wr) (fun i _ => nn - (intOf i).toNat)
      case atStart => exact ⟨0, by omega, rfl, HS.out⟩
      case round =>
        obtain ⟨j, hj, rfl, hT⟩ := hrel
        have HT := Lib.hid hT
        clear hT hcell
        by_cases hjl : j < nn
        · obtain ⟨gn, hAn, hgn, hln⟩ := E3.out (by omega)
          subst hAn
          have hln' : nn ≤ blockLen (w7.alloc (.cells vs.toArray 22)) gn := by
            have : (w7.alloc (.cells vs.toArray 22)).heap[gn]? = w7.heap[gn]? := Below.heap_alloc w7 _ gn (HLT.out _ hgn)
            unfold blockLen at hln ⊢
            rw [this]
            exact hln
          obtain ⟨u0, hu1, hu2⟩ := HT.out.cell hgn (Nat.lt_of_lt_of_le hjl hln')
          clear hln hln'
          go_wp2_with fail
          go_roundw
          case rel => exact ⟨j + 1, hjl, by go_num, HT.out.set hgn _ _⟩
          case measure => simp [intOf]; omega
        · go_wp2_with fail
          go_roundw
          case rel => exact ⟨k + 1, hlt, by go_num, HT.out⟩
          case measure => simp [intOf]; omega
    · go_wp2_with fail
      have hbl : Below w.heap.size w wo := HS.out.below (HW6.out.alloc HW6.out.size _) HGE.out
      have hob := HS.out.own (HOB.out.alloc (.cells vs.toArray 22)) HBN.out
      have hod := HS.out.own (HOD.out.alloc (.cells vs.toArray 22)) HDN.out
      have HBL := Lib.hid hbl
      have HOBW := Lib.hid hob
      have HODW := Lib.hid hod
      clear hbl hob hod
      refine (rfixed_calls wo A c l (toC (HL.out.below HBL.out)) hc HBY.out (by omega)).mono ?_
      rintro e wz ⟨rz, rfl, hrz, hbz⟩
      obtain ⟨Az, nz, cz, rfl, oz, hnz⟩ := hrz.open_
      have HBZ := Lib.hid hbz
      clear hbz hrz
      go_wp2_with fail
      have hs : codicilref01_Same.f (fixedB l) (fixedB l) = some true := by simp [codicilref01_Same.f]
      have hcb := own_cap HOBW.out
      have hcz := own_cap oz.out
      have hr1 := own_reads' (pw_own_below HOBW.out HBZ.out)
      have hr2 := own_reads' oz.out
      have hcall := codicilref01_Same.calls Ab cb _ Az cz _ true wz (toC (by rw [← hnb.out]; exact hr1)) (by rw [← hnb.out]; exact hcb.1) (toC (by rw [← hnz.out]; exact hr2)) (by rw [← hnz.out]; exact hcz.1) hs
      rw [← hnb.out] at hcall
      obtain rfl : nz = nb := hnz.out.trans hnb.out.symm
      refine hcall.mono ?_
      rintro e wy ⟨rfl, hd⟩
      obtain ⟨n2, rfl⟩ := hd.out
      have HBY2 := Lib.hid (pw_below_drewN (below_then HBL.out HBL.out.size HBZ.out) n2)
      have HODY := Lib.hid (pw_own_below HODW.out (pw_below_drewN HBZ.out n2))
      clear hr1 hr2 hcb hcz hs hcall hd
      generalize wz.drewN n2 = wy at *
      go_wp2_with fail
      refine (rstored_calls wy A c l (HL.out.below HBY2.out) hc (by omega)).mono ?_
      rintro e wx ⟨rx, rfl, hrx, hbx⟩
      obtain ⟨Ax, nx, cx, rfl, ox, hnx⟩ := hrx.open_
      have HBX := Lib.hid hbx
      clear hbx hrx
      go_wp2_with fail
      have hs : codicilref01_Same.f (storedB l) (storedB l) = some true := by simp [codicilref01_Same.f]
      have hcb := own_cap HODY.out
      have hcz := own_cap ox.out
      have hr1 := own_reads' (pw_own_below HODY.out HBX.out)
      have hr2 := own_reads' ox.out
      have hcall := codicilref01_Same.calls Ad cd _ Ax cx _ true wx (toC (by rw [← hnd.out]; exact hr1)) (by rw [← hnd.out]; exact hcb.1) (toC (by rw [← hnx.out]; exact hr2)) (by rw [← hnx.out]; exact hcz.1) hs
      rw [← hnd.out] at hcall
      obtain rfl : nx = nd := hnx.out.trans hnd.out.symm
      refine hcall.mono ?_
      rintro e wv ⟨rfl, hd⟩
      obtain ⟨n3, rfl⟩ := hd.out
      clear hr1 hr2 hcb hcz hs hcall
      go_wp2_with fail
      go_ret
      exact ⟨rfl, pw_below_drewN (below_then HBY2.out HBY2.out.size HBX.out) _⟩
theorem codicillaw04_DeflateMemory.walk (P : codicillaw04_DeflateMemory.Pure) (a0 : Option Addr) (len0 cap0 : Nat) (z0 : List Int) (w : World) (w0 : (a0 = none ∧ len0 = 0 ∧ cap0 = 0 ∧ z0 = []) ∨ ∃ x, a0 = some x ∧ len0 ≤ cap0 ∧ cap0 ≤ maxLen ∧ z0.length = cap0 ∧ (∀ i, i < z0.length → w.cell? (x.add i) = some (.int .u8 (z0.getD i 0))) ∧ ∀ n ∈ z0, (Lit.int .u8 n).wf = true) (y0 : len0 * 1 ≤ 140737488351232) :
    Calls Try.prog 6 #[.slice a0 len0 cap0] w fun e w' => e = .returned (.bool true) ∧ Below w.heap.size w w' := by
  obtain ⟨l0, rfl, hr0, hm0, hw0, hc0⟩ := ReadsInt.ofRowC w0
  exact deflateMemory_calls _ _ l0 w hr0 hc0 (fun x hx => by have := hw0 x hx; simp [Lit.wf, IntKind.min, IntKind.max, IntKind.signed, IntKind.bits] at this; omega)


/-! ### zlib_Adler: function 9 -/
def zlib_Adler.l0 : Nat → Int → Int → List Int → Int → Int → Option (Int)
  | 0, _, _, _, _, _ => none
  | k + 1, x3, x4, x7, x8, x9 => if x9 < x8 then (if 0 ≤ x9 then (if x9 < (x7.length : Int) then (if (Int.tmod x9 2000) = 1999 then (zlib_Adler.l0 k (Int.tmod (wrap64 (x3 + (wrap64 (rd x7 x9)))) 65521) (Int.tmod (wrap64 (x4 + (wrap64 (x3 + (wrap64 (rd x7 x9)))))) 65521) x7 x8 (wrap64 (x9 + 1))) else (zlib_Adler.l0 k (wrap64 (x3 + (wrap64 (rd x7 x9)))) (wrap64 (x4 + (wrap64 (x3 + (wrap64 (rd x7 x9)))))) x7 x8 (wrap64 (x9 + 1)))) else (none)) else (none)) else (some (Go.bits .or .u32 ((((Int.tmod x4 65521) % 4294967296) * 65536) % 4294967296) ((Int.tmod x3 65521) % 4294967296)))
def zlib_Adler.f (k : Nat) (l0 : List Int) : Option (Int) := zlib_Adler.l0 k 1 0 l0 (l0.length : Int) 0
theorem zlib_Adler.mono_l : ∀ k, (∀ y0 y1 y2 y3 y4, LeO (zlib_Adler.l0 k y0 y1 y2 y3 y4) (zlib_Adler.l0 (k + 1) y0 y1 y2 y3 y4))
  | 0 => fun _ _ _ _ _ r h => by simp [zlib_Adler.l0] at h
  | k + 1 => by
    have ih0 := zlib_Adler.mono_l k
    · intro y0 y1 y2 y3 y4
      unfold zlib_Adler.l0
      repeat' first
      | (with_reducible exact ih0 _ _ _ _ _)
      | (with_reducible exact LeO.refl _)
      | (with_reducible exact LeO.none _)
      | (with_reducible refine LeO.ite ?_ ?_)
      | (with_reducible refine LeO.bind ?_ (fun _ => ?_))
      | exact ih0 _ _ _ _ _
      | exact LeO.none _
      | refine LeO.ite ?_ ?_
      | refine LeO.bind ?_ (fun _ => ?_)
theorem zlib_Adler.mono : ∀ a0 k, LeO (zlib_Adler.f k a0) (zlib_Adler.f (k + 1) a0) := by
  intro a0 k
  have ih0 := zlib_Adler.mono_l k
  unfold zlib_Adler.f
  repeat' first
      | (with_reducible exact ih0 _ _ _ _ _)
      | (with_reducible exact LeO.refl _)
      | (with_reducible exact LeO.none _)
      | (with_reducible refine LeO.ite ?_ ?_)
      | (with_reducible refine LeO.bind ?_ (fun _ => ?_))
      | exact ih0 _ _ _ _ _
      | exact LeO.none _
      | refine LeO.ite ?_ ?_
      | refine LeO.bind ?_ (fun _ => ?_)
set_option maxHeartbeats 8000000 in
set_option maxRecDepth 100000 in
theorem zlib_Adler.calls (k : Nat) (A0 : Option Addr) (c0 : Nat) (l0 : List Int) (r : Int) (w : World) (hr0 : Kd.C (Kd.int .u8) w A0 l0.length l0) (hc0 : l0.length ≤ c0) (h : zlib_Adler.f k l0 = some r) :
    Calls Try.prog 9 #[.slice A0 l0.length c0] w fun e w' => e = .returned (.int .u32 r) ∧ Drawn0 w w' := by
  have HR0 := Aside0.mk hr0
  have HC0 := Aside0.mk hc0
  clear hr0 hc0
  have H : (zlib_Adler.l0 k 1 0 l0 (l0.length : Int) 0) = some r := h
  clear h
  have H' := Aside0.mk H
  clear H
  go_enter Try.func9, Try.ntmps9
  go_wp2
  go_loopg [3, 4, 9] k (fun kq v3 v4 v9 w' => ∃ (x3_1 : Int) (x4_1 : Int) (x9_1 : Int), v3 = .int .i64 x3_1 ∧ v4 = .int .i64 x4_1 ∧ v9 = .int .i64 x9_1 ∧ Aside0 (zlib_Adler.l0 kq x3_1 x4_1 l0 (l0.length : Int) x9_1 = some r) ∧ Aside0 (kq ≤ k) ∧ Drawn0 w w')
  case atStart => exact ⟨(1), (0), (0), (by first | rfl | (simp; done) | (simp [*]; done)), (by first | rfl | (simp; done) | (simp [*]; done)), (by first | rfl | (simp; done) | (simp [*]; done)), H', ⟨Nat.le_refl _⟩, by repeat (first | exact Drawn0.refl _ | apply Drawn0.step)⟩
  case round =>
    clear H'
    obtain ⟨x3_1, x4_1, x9_1, rfl, rfl, rfl, HA, HK1, ⟨m1, rfl⟩⟩ := hrel
    cases gk with
    | zero => exact absurd HA.out (by simp [zlib_Adler.l0])
    | succ k1 =>
      have H := HA.out
      clear HA
      simp only [zlib_Adler.l0] at H
      by_cases c2 : x9_1 < (l0.length : Int)
      · rw [if_pos c2] at H
        have c2b0 : decide (x9_1 < (l0.length : Int)) = true := decide_eq_true c2
        clear c2
        by_cases c3 : 0 ≤ x9_1
        · rw [if_pos c3] at H
          have c3b0 : decide (0 ≤ x9_1) = true := decide_eq_true c3
          clear c3
          by_cases c4 : x9_1 < (l0.length : Int)
          · rw [if_pos c4] at H
            have c4b0 : decide (x9_1 < (l0.length : Int)) = true := decide_eq_true c4
            clear c4
            by_cases c5 : (Int.tmod x9_1 2000) = 1999
            · rw [if_pos c5] at H
              have c5b0 : ((Int.tmod x9_1 2000) == 1999) = true := beq_iff_eq.mpr c5
              have c5b1 : ((Int.tmod x9_1 2000) != 1999) = false := bne_eq_false_iff_eq.mpr c5
              clear c5
              have H' := Aside0.mk H
              clear H
              have p130 : 0 ≤ (x9_1 : Int) := of_decide_eq_true (by first | (with_reducible assumption) | assumption)
              have q130 : x9_1 < (l0.length : Int) := of_decide_eq_true (by first | (with_reducible assumption) | assumption)
              obtain ⟨ad130, e130, hx130_0⟩ := Kd.at_int HR0.out x9_1 p130 q130
              cases e130
              replace p130 := eq_true p130
              replace q130 := eq_true q130
              go_wp2
              go_roundg k1
              case measure => have := HK1.out; omega
              case rel => exact ⟨(Int.tmod (wrap64 (x3_1 + (wrap64 (rd l0 x9_1)))) 65521), (Int.tmod (wrap64 (x4_1 + (wrap64 (x3_1 + (wrap64 (rd l0 x9_1)))))) 65521), (wrap64 (x9_1 + 1)), (by first | rfl | (simp; done) | (simp [*]; done)), (by first | rfl | (simp; done) | (simp [*]; done)), (by first | rfl | (simp; done) | (simp [*]; done)), H', ⟨by have := HK1.out; omega⟩, by repeat (first | exact Drawn0.refl _ | apply Drawn0.step)⟩
            · rw [if_neg c5] at H
              have c5b0 : ((Int.tmod x9_1 2000) == 1999) = false := beq_eq_false_iff_ne.mpr c5
              have c5b1 : ((Int.tmod x9_1 2000) != 1999) = true := bne_iff_ne.mpr c5
              have H' := Aside0.mk H
              clear H
              have p130 : 0 ≤ (x9_1 : Int) := of_decide_eq_true (by first | (with_reducible assumption) | assumption)
              have q130 : x9_1 < (l0.length : Int) := of_decide_eq_true (by first | (with_reducible assumption) | assumption)
              obtain ⟨ad130, e130, hx130_0⟩ := Kd.at_int HR0.out x9_1 p130 q130
              cases e130
              replace p130 := eq_true p130
              replace q130 := eq_true q130
              go_wp2
              go_roundg k1
              case measure => have := HK1.out; omega
              case rel => exact ⟨(wrap64 (x3_1 + (wrap64 (rd l0 x9_1)))), (wrap64 (x4_1 + (wrap64 (x3_1 + (wrap64 (rd l0 x9_1)))))), (wrap64 (x9_1 + 1)), (by first | rfl | (simp; done) | (simp [*]; done)), (by first | rfl | (simp; done) | (simp [*]; done)), (by first | rfl | (simp; done) | (simp [*]; done)), H', ⟨by have := HK1.out; omega⟩, by repeat (first | exact Drawn0.refl _ | apply Drawn0.step)⟩
          · rw [if_neg c4] at H
            exact absurd H (by simp)
        · rw [if_neg c3] at H
          exact absurd H (by simp)
      · rw [if_neg c2] at H
        have c2b0 : decide (x9_1 < (l0.length : Int)) = false := decide_eq_false c2
        clear c2
        obtain rfl := Option.some.inj H
        go_wp2
        go_ret
        exact ⟨by first | rfl | (simp; done) | (simp [*]; done), by repeat (first | exact Drawn0.refl _ | apply Drawn0.step)⟩

/-! ### zlib_Crc: function 12 -/
mutual
def zlib_Crc.l0 : Nat → Int → List Int → Int → Int → Option (Int)
  | 0, _, _, _, _ => none
  | k + 1, x3, x6, x7, x8 => if x8 < x7 then (if 0 ≤ x8 then (if x8 < (x6.length : Int) then (zlib_Crc.l1 k (Go.bits .xor .u32 x3 ((rd x6 x8) % 4294967296)) x6 x7 x8 0) else (none)) else (none)) else (some (Go.bits .xor .u32 4294967295 x3))
def zlib_Crc.l1 : Nat → Int → List Int → Int → Int → Int → Option (Int)
  | 0, _, _, _, _, _ => none
  | k + 1, x3, x6, x7, x8, x16 => if x16 < 8 then (zlib_Crc.l1 k (Go.bits .xor .u32 (x3 / 2) (Go.bits .and .u32 3988292384 ((-(Go.bits .and .u32 x3 1)) % 4294967296))) x6 x7 x8 (wrap64 (x16 + 1))) else (zlib_Crc.l0 k x3 x6 x7 (wrap64 (x8 + 1)))
end
def zlib_Crc.f (k : Nat) (l0 : List Int) : Option (Int) := zlib_Crc.l0 k 4294967295 l0 (l0.length : Int) 0
theorem zlib_Crc.mono_l : ∀ k, (∀ y0 y1 y2 y3, LeO (zlib_Crc.l0 k y0 y1 y2 y3) (zlib_Crc.l0 (k + 1) y0 y1 y2 y3)) ∧ (∀ y0 y1 y2 y3 y4, LeO (zlib_Crc.l1 k y0 y1 y2 y3 y4) (zlib_Crc.l1 (k + 1) y0 y1 y2 y3 y4))
  | 0 => ⟨fun _ _ _ _ r h => by simp [zlib_Crc.l0] at h, fun _ _ _ _ _ r h => by simp [zlib_Crc.l1] at h⟩
  | k + 1 => by
    obtain ⟨ih0, ih1⟩ := zlib_Crc.mono_l k
    refine ⟨?_, ?_⟩
    · intro y0 y1 y2 y3
      unfold zlib_Crc.l0
      repeat' first
      | (with_reducible exact ih0 _ _ _ _)
      | (with_reducible exact ih1 _ _ _ _ _)
      | (with_reducible exact LeO.refl _)
      | (with_reducible exact LeO.none _)
      | (with_reducible refine LeO.ite ?_ ?_)
      | (with_reducible refine LeO.bind ?_ (fun _ => ?_))
      | exact ih0 _ _ _ _
      | exact ih1 _ _ _ _ _
      | exact LeO.none _
      | refine LeO.ite ?_ ?_
      | refine LeO.bind ?_ (fun _ => ?_)
    · intro y0 y1 y2 y3 y4
      unfold zlib_Crc.l1
      repeat' first
      | (with_reducible exact ih0 _ _ _ _)
      | (with_reducible exact ih1 _ _ _ _ _)
      | (with_reducible exact LeO.refl _)
      | (with_reducible exact LeO.none _)
      | (with_reducible refine LeO.ite ?_ ?_)
      | (with_reducible refine LeO.bind ?_ (fun _ => ?_))
      | exact ih0 _ _ _ _
      | exact ih1 _ _ _ _ _
      | exact LeO.none _
      | refine LeO.ite ?_ ?_
      | refine LeO.bind ?_ (fun _ => ?_)
theorem zlib_Crc.mono : ∀ a0 k, LeO (zlib_Crc.f k a0) (zlib_Crc.f (k + 1) a0) := by
  intro a0 k
  obtain ⟨ih0, ih1⟩ := zlib_Crc.mono_l k
  unfold zlib_Crc.f
  repeat' first
      | (with_reducible exact ih0 _ _ _ _)
      | (with_reducible exact ih1 _ _ _ _ _)
      | (with_reducible exact LeO.refl _)
      | (with_reducible exact LeO.none _)
      | (with_reducible refine LeO.ite ?_ ?_)
      | (with_reducible refine LeO.bind ?_ (fun _ => ?_))
      | exact ih0 _ _ _ _
      | exact ih1 _ _ _ _ _
      | exact LeO.none _
      | refine LeO.ite ?_ ?_
      | refine LeO.bind ?_ (fun _ => ?_)
set_option maxHeartbeats 8000000 in
set_option maxRecDepth 100000 in
theorem zlib_Crc.calls (k : Nat) (A0 : Option Addr) (c0 : Nat) (l0 : List Int) (r : Int) (w : World) (hr0 : Kd.C (Kd.int .u8) w A0 l0.length l0) (hc0 : l0.length ≤ c0) (h : zlib_Crc.f k l0 = some r) :
    Calls Try.prog 12 #[.slice A0 l0.length c0] w fun e w' => e = .returned (.int .u32 r) ∧ Drawn0 w w' := by
  have HR0 := Aside0.mk hr0
  have HC0 := Aside0.mk hc0
  clear hr0 hc0
  have H : (zlib_Crc.l0 k 4294967295 l0 (l0.length : Int) 0) = some r := h
  clear h
  have H' := Aside0.mk H
  clear H
  go_enter Try.func12, Try.ntmps12
  go_wp2
  go_loopg [3, 8] k (fun kq v3 v8 w' => ∃ (x3_1 : Int) (x8_1 : Int), v3 = .int .u32 x3_1 ∧ v8 = .int .i64 x8_1 ∧ Aside0 (zlib_Crc.l0 kq x3_1 l0 (l0.length : Int) x8_1 = some r) ∧ Aside0 (kq ≤ k) ∧ Drawn0 w w')
  case atStart => exact ⟨(4294967295), (0), (by first | rfl | (simp; done) | (simp [*]; done)), (by first | rfl | (simp; done) | (simp [*]; done)), H', ⟨Nat.le_refl _⟩, by repeat (first | exact Drawn0.refl _ | apply Drawn0.step)⟩
  case round =>
    clear H'
    try clear c1
    obtain ⟨x3_1, x8_1, rfl, rfl, HA, HK1, ⟨m1, rfl⟩⟩ := hrel
    cases gk with
    | zero => exact absurd HA.out (by simp [zlib_Crc.l0])
    | succ k1 =>
      have H := HA.out
      clear HA
      simp only [zlib_Crc.l0] at H
      by_cases c2 : x8_1 < (l0.length : Int)
      · rw [if_pos c2] at H
        have c2b0 : decide (x8_1 < (l0.length : Int)) = true := decide_eq_true c2
        clear c2
        by_cases c3 : 0 ≤ x8_1
        · rw [if_pos c3] at H
          have c3b0 : decide (0 ≤ x8_1) = true := decide_eq_true c3
          clear c3
          by_cases c4 : x8_1 < (l0.length : Int)
          · rw [if_pos c4] at H
            have c4b0 : decide (x8_1 < (l0.length : Int)) = true := decide_eq_true c4
            clear c4
            have H' := Aside0.mk H
            clear H
            have p131 : 0 ≤ (x8_1 : Int) := of_decide_eq_true (by first | (with_reducible assumption) | assumption)
            have q131 : x8_1 < (l0.length : Int) := of_decide_eq_true (by first | (with_reducible assumption) | assumption)
            obtain ⟨ad131, e131, hx131_0⟩ := Kd.at_int HR0.out x8_1 p131 q131
            cases e131
            replace p131 := eq_true p131
            replace q131 := eq_true q131
            go_wp2
            go_loopg [3, 16] k1 (fun kq v3 v16 w' => ∃ (x3_2 : Int) (x16_2 : Int), v3 = .int .u32 x3_2 ∧ v16 = .int .i64 x16_2 ∧ Aside0 (zlib_Crc.l1 kq x3_2 l0 (l0.length : Int) x8_1 x16_2 = some r) ∧ Aside0 (kq ≤ k1) ∧ Drawn0 w w')
            case atStart => exact ⟨(Go.bits .xor .u32 x3_1 ((rd l0 x8_1) % 4294967296)), (0), (by first | rfl | (simp; done) | (simp [*]; done)), (by first | rfl | (simp; done) | (simp [*]; done)), H', ⟨Nat.le_refl _⟩, by repeat (first | exact Drawn0.refl _ | apply Drawn0.step)⟩
            case round =>
              clear H'
              try clear c1
              try clear p1
              try clear q1
              try clear hx1
              try clear c2
              try clear c2b0
              try clear p2
              try clear c3
              try clear c3b0
              try clear c4
              try clear c4b0
              try clear hx131_0
              try clear p131
              try clear q131
              obtain ⟨x3_2, x16_2, rfl, rfl, HA, HK2, ⟨m2, rfl⟩⟩ := hrel
              cases gk with
              | zero => exact absurd HA.out (by simp [zlib_Crc.l1])
              | succ k2 =>
                have H := HA.out
                clear HA
                simp only [zlib_Crc.l1] at H
                by_cases c5 : x16_2 < 8
                · rw [if_pos c5] at H
                  have c5b0 : decide (x16_2 < 8) = true := decide_eq_true c5
                  clear c5
                  have H' := Aside0.mk H
                  clear H
                  go_wp2
                  go_roundg k2
                  case measure => have := HK1.out; have := HK2.out; omega
                  case rel => exact ⟨(Go.bits .xor .u32 (x3_2 / 2) (Go.bits .and .u32 3988292384 ((-(Go.bits .and .u32 x3_2 1)) % 4294967296))), (wrap64 (x16_2 + 1)), (by first | rfl | (simp; done) | (simp [*]; done)), (by first | rfl | (simp; done) | (simp [*]; done)), H', ⟨by have := HK1.out; have := HK2.out; omega⟩, by repeat (first | exact Drawn0.refl _ | apply Drawn0.step)⟩
                · rw [if_neg c5] at H
                  have c5b0 : decide (x16_2 < 8) = false := decide_eq_false c5
                  clear c5
                  have H' := Aside0.mk H
                  clear H
                  go_wp2
                  go_roundg k2
                  case measure => have := HK1.out; have := HK2.out; omega
                  case rel => exact ⟨(x3_2), (wrap64 (x8_1 + 1)), (by first | rfl | (simp; done) | (simp [*]; done)), (by first | rfl | (simp; done) | (simp [*]; done)), H', ⟨by have := HK1.out; have := HK2.out; omega⟩, by repeat (first | exact Drawn0.refl _ | apply Drawn0.step)⟩
          · rw [if_neg c4] at H
            exact absurd H (by simp)
        · rw [if_neg c3] at H
          exact absurd H (by simp)
      · rw [if_neg c2] at H
        have c2b0 : decide (x8_1 < (l0.length : Int)) = false := decide_eq_false c2
        clear c2
        obtain rfl := Option.some.inj H
        go_wp2
        go_ret
        exact ⟨by first | rfl | (simp; done) | (simp [*]; done), by repeat (first | exact Drawn0.refl _ | apply Drawn0.step)⟩

/-! ### codicillaw05_awake: function 8 -/
def codicillaw05_awake.f : Option (Bool) := some true
theorem awake5_1 : zlib_Adler.f 20 [97, 98, 99] = some 38600999 := by decide +kernel
theorem awake5_2 : zlib_Crc.f 300 [49, 50, 51, 52, 53, 54, 55, 56, 57] = some 3421780262 := by decide +kernel
theorem awake5_3 (W : World) : ReadsInt (W.alloc (.cells #[.int .u8 97, .int .u8 98, .int .u8 99] 5 (3, 4))) .u8 (some ⟨W.heap.size, 0, none⟩) 3 [97, 98, 99] := const_reads W 5 [97, 98, 99] _ _ rfl (by decide)
theorem awake5_4 (W : World) : ReadsInt (W.alloc (.cells #[.int .u8 49, .int .u8 50, .int .u8 51, .int .u8 52, .int .u8 53, .int .u8 54, .int .u8 55, .int .u8 56, .int .u8 57] 5 (9, 10))) .u8 (some ⟨W.heap.size, 0, none⟩) 9 [49, 50, 51, 52, 53, 54, 55, 56, 57] := const_reads W 5 [49, 50, 51, 52, 53, 54, 55, 56, 57] _ _ rfl (by decide)
set_option maxHeartbeats 1000000 in
theorem codicillaw05_awake.calls (r : Bool) (w : World) (h : codicillaw05_awake.f = some r) :
    Calls Try.prog 8 #[] w fun e w' => e = .returned (.bool r) ∧ Below w.heap.size w w' := by
  obtain rfl := Option.some.inj h
  have kc := fun (w : World) (C : Array Value) (n c : Nat) => Lib.run_convert_bytes_const (P := Try.prog) w 22 5 C n c Try.underlying22 Try.underlying5
  go_enter Try.func8, Try.ntmps8
  go_wp2_with fail
  refine (zlib_Adler.calls 20 _ 3 [97, 98, 99] _ _ (toC (awake5_3 w)) (by decide) awake5_1).mono ?_
  rintro e w1 ⟨rfl, hd⟩
  have HB1 := Lib.hid (show Below w.heap.size w w1 from below_then (below_alloc (Below.refl _ _) _) (below_alloc (Below.refl _ _) _).size hd.below)
  clear hd
  go_wp2_with fail
  refine (zlib_Crc.calls 300 _ 9 [49, 50, 51, 52, 53, 54, 55, 56, 57] _ _ (toC (awake5_4 w1)) (by decide) awake5_2).mono ?_
  rintro e w2 ⟨rfl, hd⟩
  have HB2 := Lib.hid (show Below w.heap.size w w2 from below_then (below_alloc HB1.out _) (below_alloc HB1.out _).size hd.below)
  clear hd
  go_wp2_with fail
  go_ret
  exact ⟨rfl, HB2.out⟩


/-! ### zlib_Wrap: function 22 -/
def zlib_Wrap.f (k : Nat) (l0 : List Int) (a1 : Int) : Option (List Int × Int) := (deflate_Deflate.f l0 a1).bind fun bt132 => (if bt132.2 = 0 then ((zlib_Adler.f k l0).bind fun t136 => ((some (([120, 1] : List Int) : List Int)).bind fun y137 => (if y137.length + bt132.1.length < 140737488355328 then ((some (y137 ++ bt132.1 : List Int)).bind fun y140 => ((some (([(t136 / 16777216) % 256, (t136 / 65536) % 256, (t136 / 256) % 256, (t136) % 256] : List Int) : List Int)).bind fun y143 => (if y140.length + y143.length < 140737488355328 then (some ((y140 ++ y143), 0)) else (none)))) else (none)))) else (some (([] : List Int), bt132.2)))
theorem zlib_Wrap.mono : ∀ a0 a1 k, LeO (zlib_Wrap.f k a0 a1) (zlib_Wrap.f (k + 1) a0 a1) := by
  intro a0 a1 k
  unfold zlib_Wrap.f
  repeat' first
      | (with_reducible exact zlib_Adler.mono _ _)
      | (with_reducible exact LeO.refl _)
      | (with_reducible exact LeO.none _)
      | (with_reducible refine LeO.ite ?_ ?_)
      | (with_reducible refine LeO.bind ?_ (fun _ => ?_))
      | exact zlib_Adler.mono _ _
      | exact LeO.none _
      | refine LeO.ite ?_ ?_
      | refine LeO.bind ?_ (fun _ => ?_)
set_option maxHeartbeats 8000000 in
set_option maxRecDepth 100000 in
theorem zlib_Wrap.calls (k : Nat) (A0 : Option Addr) (c0 : Nat) (l0 : List Int) (a1 : Int) (r1 : List Int) (r2 : Int) (w : World) (hr0 : Kd.C (Kd.int .u8) w A0 l0.length l0) (hc0 : l0.length ≤ c0) (h : zlib_Wrap.f k l0 a1 = some (r1, r2)) :
    Calls Try.prog 22 #[.slice A0 l0.length c0, .int .i64 a1] w fun e w' => ∃ v0_ : Value, e = .returned (.tuple #[v0_, .int .i64 r2]) ∧ Kd.R (Kd.int .u8) 5 w' w.heap.size (fun _ => True) v0_ r1 ∧ Below w.heap.size w w' := by
  have HR0 := Aside0.mk hr0
  have HC0 := Aside0.mk hc0
  clear hr0 hc0
  have HB := Aside0.mk (Below.refl w.heap.size w)
  have H : ((deflate_Deflate.f l0 a1).bind fun bt132 => (if bt132.2 = 0 then ((zlib_Adler.f k l0).bind fun t136 => ((some (([120, 1] : List Int) : List Int)).bind fun y137 => (if y137.length + bt132.1.length < 140737488355328 then ((some (y137 ++ bt132.1 : List Int)).bind fun y140 => ((some (([(t136 / 16777216) % 256, (t136 / 65536) % 256, (t136 / 256) % 256, (t136) % 256] : List Int) : List Int)).bind fun y143 => (if y140.length + y143.length < 140737488355328 then (some ((y140 ++ y143), 0)) else (none)))) else (none)))) else (some (([] : List Int), bt132.2)))) = some (r1, r2) := h
  clear h
  replace H := Option.bind_eq_some_iff.mp H
  obtain ⟨⟨t132, t133⟩, A30, H⟩ := H
  replace H : (if t133 = 0 then ((zlib_Adler.f k l0).bind fun t136 => ((some (([120, 1] : List Int) : List Int)).bind fun y137 => (if y137.length + t132.length < 140737488355328 then ((some (y137 ++ t132 : List Int)).bind fun y140 => ((some (([(t136 / 16777216) % 256, (t136 / 65536) % 256, (t136 / 256) % 256, (t136) % 256] : List Int) : List Int)).bind fun y143 => (if y140.length + y143.length < 140737488355328 then (some ((y140 ++ y143), 0)) else (none)))) else (none)))) else (some (([] : List Int), t133))) = some (r1, r2) := H
  have A3 := Aside0.mk A30
  clear A30
  by_cases c4 : t133 = 0
  · rw [if_pos c4] at H
    have c4b0 : (t133 == 0) = true := beq_iff_eq.mpr c4
    have c4b1 : (t133 != 0) = false := bne_eq_false_iff_eq.mpr c4
    clear c4
    replace H := Option.bind_eq_some_iff.mp H
    obtain ⟨t136, A50, H⟩ := H
    replace H : ((some (([120, 1] : List Int) : List Int)).bind fun y137 => (if y137.length + t132.length < 140737488355328 then ((some (y137 ++ t132 : List Int)).bind fun y140 => ((some (([(t136 / 16777216) % 256, (t136 / 65536) % 256, (t136 / 256) % 256, (t136) % 256] : List Int) : List Int)).bind fun y143 => (if y140.length + y143.length < 140737488355328 then (some ((y140 ++ y143), 0)) else (none)))) else (none))) = some (r1, r2) := H
    have A5 := Aside0.mk A50
    clear A50
    obtain ⟨y137, hy137⟩ : ∃ y_ : List Int, y_ = (([120, 1] : List Int)) := ⟨_, rfl⟩
    replace H : (if y137.length + t132.length < 140737488355328 then ((some (y137 ++ t132 : List Int)).bind fun y140 => ((some (([(t136 / 16777216) % 256, (t136 / 65536) % 256, (t136 / 256) % 256, (t136) % 256] : List Int) : List Int)).bind fun y143 => (if y140.length + y143.length < 140737488355328 then (some ((y140 ++ y143), 0)) else (none)))) else (none)) = some (r1, r2) := by first | (rw [hy137]; with_reducible exact H) | (have H2_ := (Option.bind_some _ _).symm.trans H; rw [hy137]; with_reducible exact H2_) | (have H2_ := (Option.bind_some _ _).symm.trans H; with_reducible exact H2_) | with_reducible exact H | (rw [hy137]; exact H) | exact H
    have Ny137 := Aside0.mk hy137
    clear hy137
    by_cases c6 : y137.length + t132.length < 140737488355328
    · rw [if_pos c6] at H
      have LMc6 := Aside0.mk c6
      clear c6
      obtain ⟨y140, hy140⟩ : ∃ y_ : List Int, y_ = (y137 ++ t132) := ⟨_, rfl⟩
      replace H : ((some (([(t136 / 16777216) % 256, (t136 / 65536) % 256, (t136 / 256) % 256, (t136) % 256] : List Int) : List Int)).bind fun y143 => (if y140.length + y143.length < 140737488355328 then (some ((y140 ++ y143), 0)) else (none))) = some (r1, r2) := by first | (rw [hy140]; with_reducible exact H) | (have H2_ := (Option.bind_some _ _).symm.trans H; rw [hy140]; with_reducible exact H2_) | (have H2_ := (Option.bind_some _ _).symm.trans H; with_reducible exact H2_) | with_reducible exact H | (rw [hy140]; exact H) | exact H
      have Ny140 := Aside0.mk hy140
      clear hy140
      obtain ⟨y143, hy143⟩ : ∃ y_ : List Int, y_ = (([(t136 / 16777216) % 256, (t136 / 65536) % 256, (t136 / 256) % 256, (t136) % 256] : List Int)) := ⟨_, rfl⟩
      replace H : (if y140.length + y143.length < 140737488355328 then (some ((y140 ++ y143), 0)) else (none)) = some (r1, r2) := by first | (rw [hy143]; with_reducible exact H) | (have H2_ := (Option.bind_some _ _).symm.trans H; rw [hy143]; with_reducible exact H2_) | (have H2_ := (Option.bind_some _ _).symm.trans H; with_reducible exact H2_) | with_reducible exact H | (rw [hy143]; exact H) | exact H
      have Ny143 := Aside0.mk hy143
      clear hy143
      by_cases c7 : y140.length + y143.length < 140737488355328
      · rw [if_pos c7] at H
        have LMc7 := Aside0.mk c7
        clear c7
        obtain ⟨y146, hy146⟩ : ∃ y_ : List Int, y_ = (y140 ++ y143) := ⟨_, rfl⟩
        replace H : (some (y146, 0)) = some (r1, r2) := by first | (rw [hy146]; with_reducible exact H) | (have H2_ := (Option.bind_some _ _).symm.trans H; rw [hy146]; with_reducible exact H2_) | (have H2_ := (Option.bind_some _ _).symm.trans H; with_reducible exact H2_) | with_reducible exact H | (rw [hy146]; exact H) | exact H
        have Ny146 := Aside0.mk hy146
        clear hy146
        simp only [Option.some.injEq, Prod.mk.injEq] at H
        obtain ⟨rfl, rfl⟩ := H
        go_enter Try.func22, Try.ntmps22
        go_wp2_with (first | ((with_reducible refine gate_callee (f := 15) rfl ?_); refine goesL_ (some 13) rfl rfl Try.func15 (by kernel_rfl) rfl #[.slice A0 l0.length c0, .int .i64 a1] rfl (by (try simp only [List.map_toArray, List.map_cons, List.map_nil]); first | done | rfl | (simp only [List.length_drop, List.length_take]; rfl)) ?_; (with_reducible refine (deflate_Deflate.calls _ _ l0 a1 t132 t133 _ ?side1 ?side2 A3.out).mono ?_); (case side1 => repeat (first | exact HR0.out | (with_reducible refine Kd.C_alloc ?_ _) | (with_reducible refine Kd.C_drewN ?_ _) | (with_reducible refine Kd.C_drew ?_))); (case side2 => exact HC0.out); rintro e w8 ⟨v134, rfl, ho0, hb⟩; refine ⟨_, rfl, ?_⟩; have n0_ := Aside0.mk (Kd.R_lower ho0 (below_size (by repeat (first | (with_reducible first | exact HB.out | apply below_alloc | apply pw_below_drewN | apply below_drew1) | exact HB.out)))); have n1_ := Aside0.mk (below_step (by repeat (first | (with_reducible first | exact HB.out | apply below_alloc | apply pw_below_drewN | apply below_drew1) | exact HB.out)) hb); clear HB; have HO135 := n0_; have HB := n1_; clear n0_ n1_; (try clear hb); (try clear hb2); (try clear hk); (try clear hi); (try clear ho0)) | ((with_reducible refine gate_callee (f := 9) rfl ?_); refine goesL_ (some 20) rfl rfl Try.func9 (by kernel_rfl) rfl #[.slice A0 l0.length c0] rfl (by (try simp only [List.map_toArray, List.map_cons, List.map_nil]); first | done | rfl | (simp only [List.length_drop, List.length_take]; rfl)) ?_; (with_reducible refine (zlib_Adler.calls k _ _ l0 t136 _ ?side1 ?side2 A5.out).mono ?_); (case side1 => repeat (first | exact (Kd.C_below HR0.out HB.out) | (with_reducible refine Kd.C_alloc ?_ _) | (with_reducible refine Kd.C_drewN ?_ _) | (with_reducible refine Kd.C_drew ?_))); (case side2 => exact HC0.out); rintro e w' ⟨rfl, ⟨nd, rfl⟩⟩; refine ⟨_, rfl, ?_⟩) | ((with_reducible refine gate_dst (N := 21) rfl ?_); refine Kd.R_lit (Kd.int .u8) _ 5 ?hg (N := 21) ?hd (xs := ([120, 1] : List Int)) (inner := [.int .u8 120, .int .u8 1]) (ok := fun _ => True) (okp := fun _ => True) ?hr ?hp (fun _ hk => hk) trivial (Below.refl _ _) (Nat.le_refl _) (by simp) ?_; (case hd => rfl); (case hg => rfl); (case hr => first | (go_simp; done) | (go_simp; rfl)); (case hp => exact (Reps.one (show Kd.M (Kd.int .u8) _ _ _ 120 [.int .u8 120] from rfl) (Reps.one (show Kd.M (Kd.int .u8) _ _ _ 1 [.int .u8 1] from rfl) (Reps.none _ _)))); intro v138 w9 ho10 hb hg_ hnew_; clear hg_ hnew_; (first | rw [← Ny137.out] at ho10 | (simp only [Int.reduceToNat] at ho10; rw [← Ny137.out] at ho10)); have n0_ := Aside0.mk (Kd.R_elder' (by (with_reducible repeat (first | apply Kd.R_alloc | apply Kd.R_drewN | apply Kd.R_drew)); exact HO135.out) (Kd.R_base ho10) hb); have n1_ := Aside0.mk (Kd.R_lower (Kd.R_new' ho10 (Kd.R_lt (by (with_reducible repeat (first | apply Kd.R_alloc | apply Kd.R_drewN | apply Kd.R_drew)); exact HO135.out))) (below_size (by repeat (first | (with_reducible first | exact HB.out | apply below_alloc | apply pw_below_drewN | apply below_drew1) | exact HB.out)))); have n2_ := Aside0.mk (below_step (by repeat (first | (with_reducible first | exact HB.out | apply below_alloc | apply pw_below_drewN | apply below_drew1) | exact HB.out)) hb); clear HO135; clear HB; have HO135 := n0_; have HO139 := n1_; have HB := n2_; clear n0_ n1_ n2_; clear hb ho10; obtain ⟨Ao12, co12, eo12⟩ := Kd.R_slice HO135.out; subst eo12) | ((with_reducible refine gate_builtin (b := .append) (xs := #[.tmp 21, .tmp 22]) rfl ?_); at_builtin; refine Kd.R_append_rows (Kd.int .u8) (w0 := w) w.heap.size rfl (.tmp 21) (.tmp 22) 22 5 (.int .u8 0) 1 rfl Try.underlying22 info5 rfl (by decide) (by omega) v138 y137 t132 _ _ _ (fun k_ => some k_ ≠ (.slice Ao12 t132.length co12 : Value).ownBlock) (fun _ => False) rfl rfl ?aO ?aR (fun _ _ h => h) (fun _ h => h.elim) ?aF ?aB ?aS ?aL ?_; (case aR => repeat (first | exact (Kd.R_reads' HO135.out).2.2 | (with_reducible refine Kd.C_alloc ?_ _) | (with_reducible refine Kd.C_drewN ?_ _) | (with_reducible refine Kd.C_drew ?_))); (case aB => exact (by repeat (first | (with_reducible first | exact HB.out | apply below_alloc | apply pw_below_drewN | apply below_drew1) | exact HB.out))); (case aF => exact (fun k_ hk => Kd.fresh' (Kd.R_lt (by (with_reducible repeat (first | apply Kd.R_alloc | apply Kd.R_drewN | apply Kd.R_drew)); exact HO135.out)) k_ hk)); (case aO => exact (by (with_reducible repeat (first | apply Kd.R_alloc | apply Kd.R_drewN | apply Kd.R_drew)); exact Kd.R_mono HO139.out (fun _ hk => hk.2))); (case aS => exact (below_size (by repeat (first | (with_reducible first | exact HB.out | apply below_alloc | apply pw_below_drewN | apply below_drew1) | exact HB.out)))); (case aL => have := LMc6.out; omega); intro v141 w11 ho hb hg hat; rw [← Ny140.out] at ho; have n0_ := Aside0.mk (Kd.R_after (ok := (fun _ => True)) (by (with_reducible repeat (first | apply Kd.R_alloc | apply Kd.R_drewN | apply Kd.R_drew)); exact HO135.out) hg hat); have n1_ := Aside0.mk (hb); have n2_ := Aside0.mk (ho); clear HO135; clear HB; clear HO139; have HO135 := n0_; have HB := n1_; have HO142 := n2_; clear n0_ n1_ n2_; clear ho hb hg hat) | ((with_reducible refine gate_dst (N := 36) rfl ?_); refine Kd.R_lit (Kd.int .u8) _ 5 ?hg (N := 36) ?hd (xs := ([(t136 / 16777216) % 256, (t136 / 65536) % 256, (t136 / 256) % 256, (t136) % 256] : List Int)) (inner := [.int .u8 ((t136 / 16777216) % 256), .int .u8 ((t136 / 65536) % 256), .int .u8 ((t136 / 256) % 256), .int .u8 ((t136) % 256)]) (ok := fun _ => True) (okp := fun _ => True) ?hr ?hp (fun _ hk => hk) trivial (Below.refl _ _) (Nat.le_refl _) (by simp) ?_; (case hd => rfl); (case hg => rfl); (case hr => first | (go_simp; done) | (go_simp; rfl)); (case hp => exact (Reps.one (show Kd.M (Kd.int .u8) _ _ _ ((t136 / 16777216) % 256) [.int .u8 ((t136 / 16777216) % 256)] from rfl) (Reps.one (show Kd.M (Kd.int .u8) _ _ _ ((t136 / 65536) % 256) [.int .u8 ((t136 / 65536) % 256)] from rfl) (Reps.one (show Kd.M (Kd.int .u8) _ _ _ ((t136 / 256) % 256) [.int .u8 ((t136 / 256) % 256)] from rfl) (Reps.one (show Kd.M (Kd.int .u8) _ _ _ ((t136) % 256) [.int .u8 ((t136) % 256)] from rfl) (Reps.none _ _)))))); intro v144 w13 ho14 hb hg_ hnew_; clear hg_ hnew_; (first | rw [← Ny143.out] at ho14 | (simp only [Int.reduceToNat] at ho14; rw [← Ny143.out] at ho14)); have n0_ := Aside0.mk (Kd.R_elder' (by (with_reducible repeat (first | apply Kd.R_alloc | apply Kd.R_drewN | apply Kd.R_drew)); exact HO135.out) (Kd.R_base ho14) hb); have n1_ := Aside0.mk (Kd.R_elder' (by (with_reducible repeat (first | apply Kd.R_alloc | apply Kd.R_drewN | apply Kd.R_drew)); exact HO142.out) (Kd.R_base ho14) hb); have n2_ := Aside0.mk (Kd.R_lower (Kd.R_new' (Kd.R_new' ho14 (Kd.R_lt (by (with_reducible repeat (first | apply Kd.R_alloc | apply Kd.R_drewN | apply Kd.R_drew)); exact HO135.out))) (Kd.R_lt (by (with_reducible repeat (first | apply Kd.R_alloc | apply Kd.R_drewN | apply Kd.R_drew)); exact HO142.out))) (below_size (by repeat (first | (with_reducible first | exact HB.out | apply below_alloc | apply pw_below_drewN | apply below_drew1) | exact HB.out)))); have n3_ := Aside0.mk (below_step (by repeat (first | (with_reducible first | exact HB.out | apply below_alloc | apply pw_below_drewN | apply below_drew1) | exact HB.out)) hb); clear HO135; clear HO142; clear HB; have HO135 := n0_; have HO142 := n1_; have HO145 := n2_; have HB := n3_; clear n0_ n1_ n2_ n3_; clear hb ho14; obtain ⟨Ao16, co16, eo16⟩ := Kd.R_slice HO145.out; subst eo16) | ((with_reducible refine gate_builtin (b := .append) (xs := #[.tmp 24, .tmp 36]) rfl ?_); at_builtin; refine Kd.R_append_rows (Kd.int .u8) (w0 := w) w.heap.size rfl (.tmp 24) (.tmp 36) 22 5 (.int .u8 0) 1 rfl Try.underlying22 info5 rfl (by decide) (by omega) v141 y140 y143 _ _ _ (fun k_ => some k_ ≠ (.slice Ao12 t132.length co12 : Value).ownBlock ∧ some k_ ≠ (.slice Ao16 y143.length co16 : Value).ownBlock) (fun _ => False) rfl rfl ?aO ?aR (fun _ _ h => h) (fun _ h => h.elim) ?aF ?aB ?aS ?aL ?_; (case aR => repeat (first | exact (Kd.R_reads' HO145.out).2.2 | (with_reducible refine Kd.C_alloc ?_ _) | (with_reducible refine Kd.C_drewN ?_ _) | (with_reducible refine Kd.C_drew ?_))); (case aB => exact (by repeat (first | (with_reducible first | exact HB.out | apply below_alloc | apply pw_below_drewN | apply below_drew1) | exact HB.out))); (case aF => exact (fun k_ hk => ⟨Kd.fresh' (Kd.R_lt (by (with_reducible repeat (first | apply Kd.R_alloc | apply Kd.R_drewN | apply Kd.R_drew)); exact HO135.out)) k_ hk, Kd.fresh' (Kd.R_lt (by (with_reducible repeat (first | apply Kd.R_alloc | apply Kd.R_drewN | apply Kd.R_drew)); exact HO145.out)) k_ hk⟩)); (case aO => exact (by (with_reducible repeat (first | apply Kd.R_alloc | apply Kd.R_drewN | apply Kd.R_drew)); exact HO142.out)); (case aS => exact (below_size (by repeat (first | (with_reducible first | exact HB.out | apply below_alloc | apply pw_below_drewN | apply below_drew1) | exact HB.out)))); (case aL => have := LMc7.out; omega); intro v147 w15 ho hb hg hat; rw [← Ny146.out] at ho; have n0_ := Aside0.mk (Kd.R_after (ok := (fun k_ => some k_ ≠ (.slice Ao16 y143.length co16 : Value).ownBlock)) (by (with_reducible repeat (first | apply Kd.R_alloc | apply Kd.R_drewN | apply Kd.R_drew)); exact Kd.R_mono HO135.out (fun _ hk => ⟨hk.2, hk.1.2⟩)) hg hat); have n1_ := Aside0.mk (Kd.R_after (ok := (fun k_ => some k_ ≠ (.slice Ao12 t132.length co12 : Value).ownBlock)) (by (with_reducible repeat (first | apply Kd.R_alloc | apply Kd.R_drewN | apply Kd.R_drew)); exact Kd.R_mono HO145.out (fun _ hk => ⟨hk.1.2, hk.2⟩)) hg hat); have n2_ := Aside0.mk (hb); have n3_ := Aside0.mk (ho); clear HO135; clear HO145; clear HB; clear HO142; have HO135 := n0_; have HO145 := n1_; have HB := n2_; have HO148 := n3_; clear n0_ n1_ n2_ n3_; clear ho hb hg hat))
        go_ret2
        exact ⟨_, by first | rfl | (simp [errW_none, errW_some] <;> rfl) | (simp [*, errW_none, errW_some] <;> rfl), by (with_reducible repeat (first | apply Kd.R_alloc | apply Kd.R_drewN | apply Kd.R_drew)); exact Kd.R_mono HO148.out (fun _ hk => trivial), by repeat (first | (with_reducible first | exact HB.out | apply below_alloc | apply pw_below_drewN | apply below_drew1) | exact HB.out)⟩
      · rw [if_neg c7] at H
        exact absurd H (by simp)
    · rw [if_neg c6] at H
      exact absurd H (by simp)
  · rw [if_neg c4] at H
    have c4b0 : (t133 == 0) = false := beq_eq_false_iff_ne.mpr c4
    have c4b1 : (t133 != 0) = true := bne_iff_ne.mpr c4
    simp only [Option.some.injEq, Prod.mk.injEq] at H
    obtain ⟨rfl, rfl⟩ := H
    go_enter Try.func22, Try.ntmps22
    go_wp2_with (first | ((with_reducible refine gate_callee (f := 15) rfl ?_); refine goesL_ (some 13) rfl rfl Try.func15 (by kernel_rfl) rfl #[.slice A0 l0.length c0, .int .i64 a1] rfl (by (try simp only [List.map_toArray, List.map_cons, List.map_nil]); first | done | rfl | (simp only [List.length_drop, List.length_take]; rfl)) ?_; (with_reducible refine (deflate_Deflate.calls _ _ l0 a1 t132 t133 _ ?side1 ?side2 A3.out).mono ?_); (case side1 => repeat (first | exact HR0.out | (with_reducible refine Kd.C_alloc ?_ _) | (with_reducible refine Kd.C_drewN ?_ _) | (with_reducible refine Kd.C_drew ?_))); (case side2 => exact HC0.out); rintro e w17 ⟨v134, rfl, ho0, hb⟩; refine ⟨_, rfl, ?_⟩; have n0_ := Aside0.mk (Kd.R_lower ho0 (below_size (by repeat (first | (with_reducible first | exact HB.out | apply below_alloc | apply pw_below_drewN | apply below_drew1) | exact HB.out)))); have n1_ := Aside0.mk (below_step (by repeat (first | (with_reducible first | exact HB.out | apply below_alloc | apply pw_below_drewN | apply below_drew1) | exact HB.out)) hb); clear HB; have HO135 := n0_; have HB := n1_; clear n0_ n1_; (try clear hb); (try clear hb2); (try clear hk); (try clear hi); (try clear ho0)))
    go_ret2
    exact ⟨_, by first | rfl | (simp [errW_none, errW_some] <;> rfl) | (simp [*, errW_none, errW_some] <;> rfl), by first | exact Kd.R_nil _ _ _ _ _ | exact Kd.N_nil _ _ _ _ _ | exact Kd.V_nil _ _ _ _ _ | exact Kd.Q_nil _ _ _ _ _ | exact Kd.S_nil _ _ _ _ _, by repeat (first | (with_reducible first | exact HB.out | apply below_alloc | apply pw_below_drewN | apply below_drew1) | exact HB.out)⟩

/-! ### codicilref05_Adler: function 11 -/
def codicilref05_Adler.l0 : Nat → Int → Int → List Int → Int → Int → Option (Int)
  | 0, _, _, _, _, _ => none
  | k + 1, x3, x4, x7, x8, x9 => if x9 < x8 then (if 0 ≤ x9 then (if x9 < (x7.length : Int) then (codicilref05_Adler.l0 k (((x3 + (rd x7 x9)) % 4294967296) % 65521) (((x4 + (((x3 + (rd x7 x9)) % 4294967296) % 65521)) % 4294967296) % 65521) x7 x8 (wrap64 (x9 + 1))) else (none)) else (none)) else (some (((65536 * x4) + x3) % 4294967296))
def codicilref05_Adler.f (k : Nat) (l0 : List Int) : Option (Int) := codicilref05_Adler.l0 k 1 0 l0 (l0.length : Int) 0
theorem codicilref05_Adler.mono_l : ∀ k, (∀ y0 y1 y2 y3 y4, LeO (codicilref05_Adler.l0 k y0 y1 y2 y3 y4) (codicilref05_Adler.l0 (k + 1) y0 y1 y2 y3 y4))
  | 0 => fun _ _ _ _ _ r h => by simp [codicilref05_Adler.l0] at h
  | k + 1 => by
    have ih0 := codicilref05_Adler.mono_l k
    · intro y0 y1 y2 y3 y4
      unfold codicilref05_Adler.l0
      repeat' first
      | (with_reducible exact ih0 _ _ _ _ _)
      | (with_reducible exact LeO.refl _)
      | (with_reducible exact LeO.none _)
      | (with_reducible refine LeO.ite ?_ ?_)
      | (with_reducible refine LeO.bind ?_ (fun _ => ?_))
      | exact ih0 _ _ _ _ _
      | exact LeO.none _
      | refine LeO.ite ?_ ?_
      | refine LeO.bind ?_ (fun _ => ?_)
theorem codicilref05_Adler.mono : ∀ a0 k, LeO (codicilref05_Adler.f k a0) (codicilref05_Adler.f (k + 1) a0) := by
  intro a0 k
  have ih0 := codicilref05_Adler.mono_l k
  unfold codicilref05_Adler.f
  repeat' first
      | (with_reducible exact ih0 _ _ _ _ _)
      | (with_reducible exact LeO.refl _)
      | (with_reducible exact LeO.none _)
      | (with_reducible refine LeO.ite ?_ ?_)
      | (with_reducible refine LeO.bind ?_ (fun _ => ?_))
      | exact ih0 _ _ _ _ _
      | exact LeO.none _
      | refine LeO.ite ?_ ?_
      | refine LeO.bind ?_ (fun _ => ?_)
set_option maxHeartbeats 8000000 in
set_option maxRecDepth 100000 in
theorem codicilref05_Adler.calls (k : Nat) (A0 : Option Addr) (c0 : Nat) (l0 : List Int) (r : Int) (w : World) (hr0 : Kd.C (Kd.int .u8) w A0 l0.length l0) (hc0 : l0.length ≤ c0) (h : codicilref05_Adler.f k l0 = some r) :
    Calls Try.prog 11 #[.slice A0 l0.length c0] w fun e w' => e = .returned (.int .u32 r) ∧ Drawn0 w w' := by
  have HR0 := Aside0.mk hr0
  have HC0 := Aside0.mk hc0
  clear hr0 hc0
  have H : (codicilref05_Adler.l0 k 1 0 l0 (l0.length : Int) 0) = some r := h
  clear h
  have H' := Aside0.mk H
  clear H
  go_enter Try.func11, Try.ntmps11
  go_wp2
  go_loopg [3, 4, 9] k (fun kq v3 v4 v9 w' => ∃ (x3_1 : Int) (x4_1 : Int) (x9_1 : Int), v3 = .int .u32 x3_1 ∧ v4 = .int .u32 x4_1 ∧ v9 = .int .i64 x9_1 ∧ Aside0 (codicilref05_Adler.l0 kq x3_1 x4_1 l0 (l0.length : Int) x9_1 = some r) ∧ Aside0 (kq ≤ k) ∧ Drawn0 w w')
  case atStart => exact ⟨(1), (0), (0), (by first | rfl | (simp; done) | (simp [*]; done)), (by first | rfl | (simp; done) | (simp [*]; done)), (by first | rfl | (simp; done) | (simp [*]; done)), H', ⟨Nat.le_refl _⟩, by repeat (first | exact Drawn0.refl _ | apply Drawn0.step)⟩
  case round =>
    clear H'
    try clear c1
    obtain ⟨x3_1, x4_1, x9_1, rfl, rfl, rfl, HA, HK1, ⟨m1, rfl⟩⟩ := hrel
    cases gk with
    | zero => exact absurd HA.out (by simp [codicilref05_Adler.l0])
    | succ k1 =>
      have H := HA.out
      clear HA
      simp only [codicilref05_Adler.l0] at H
      by_cases c2 : x9_1 < (l0.length : Int)
      · rw [if_pos c2] at H
        have c2b0 : decide (x9_1 < (l0.length : Int)) = true := decide_eq_true c2
        clear c2
        by_cases c3 : 0 ≤ x9_1
        · rw [if_pos c3] at H
          have c3b0 : decide (0 ≤ x9_1) = true := decide_eq_true c3
          clear c3
          by_cases c4 : x9_1 < (l0.length : Int)
          · rw [if_pos c4] at H
            have c4b0 : decide (x9_1 < (l0.length : Int)) = true := decide_eq_true c4
            clear c4
            have H' := Aside0.mk H
            clear H
            have p149 : 0 ≤ (x9_1 : Int) := of_decide_eq_true (by first | (with_reducible assumption) | assumption)
            have q149 : x9_1 < (l0.length : Int) := of_decide_eq_true (by first | (with_reducible assumption) | assumption)
            obtain ⟨ad149, e149, hx149_0⟩ := Kd.at_int HR0.out x9_1 p149 q149
            cases e149
            replace p149 := eq_true p149
            replace q149 := eq_true q149
            go_wp2
            go_roundg k1
            case measure => have := HK1.out; omega
            case rel => exact ⟨(((x3_1 + (rd l0 x9_1)) % 4294967296) % 65521), (((x4_1 + (((x3_1 + (rd l0 x9_1)) % 4294967296) % 65521)) % 4294967296) % 65521), (wrap64 (x9_1 + 1)), (by first | rfl | (simp; done) | (simp [*]; done)), (by first | rfl | (simp; done) | (simp [*]; done)), (by first | rfl | (simp; done) | (simp [*]; done)), H', ⟨by have := HK1.out; omega⟩, by repeat (first | exact Drawn0.refl _ | apply Drawn0.step)⟩
          · rw [if_neg c4] at H
            exact absurd H (by simp)
        · rw [if_neg c3] at H
          exact absurd H (by simp)
      · rw [if_neg c2] at H
        have c2b0 : decide (x9_1 < (l0.length : Int)) = false := decide_eq_false c2
        clear c2
        obtain rfl := Option.some.inj H
        go_wp2
        go_ret
        exact ⟨by first | rfl | (simp; done) | (simp [*]; done), by repeat (first | exact Drawn0.refl _ | apply Drawn0.step)⟩

/-! ### codicilref05_Wrap: function 33 -/
def codicilref05_Wrap.f (k : Nat) (l0 : List Int) (a1 : Int) : Option (List Int) := (some (([120, 1] : List Int) : List Int)).bind fun y150 => ((codicilref04_Deflate.f l0 a1).bind fun t153 => (if y150.length + t153.length < 140737488355328 then ((some (y150 ++ t153 : List Int)).bind fun y156 => ((codicilref05_Adler.f k l0).bind fun t159 => ((some (([(t159 / 16777216) % 256, (t159 / 65536) % 256, (t159 / 256) % 256, (t159) % 256] : List Int) : List Int)).bind fun y160 => (if y156.length + y160.length < 140737488355328 then (some (y156 ++ y160)) else (none))))) else (none)))
theorem codicilref05_Wrap.mono : ∀ a0 a1 k, LeO (codicilref05_Wrap.f k a0 a1) (codicilref05_Wrap.f (k + 1) a0 a1) := by
  intro a0 a1 k
  unfold codicilref05_Wrap.f
  repeat' first
      | (with_reducible exact codicilref05_Adler.mono _ _)
      | (with_reducible exact LeO.refl _)
      | (with_reducible exact LeO.none _)
      | (with_reducible refine LeO.ite ?_ ?_)
      | (with_reducible refine LeO.bind ?_ (fun _ => ?_))
      | exact codicilref05_Adler.mono _ _
      | exact LeO.none _
      | refine LeO.ite ?_ ?_
      | refine LeO.bind ?_ (fun _ => ?_)
set_option maxHeartbeats 8000000 in
set_option maxRecDepth 100000 in
theorem codicilref05_Wrap.calls (k : Nat) (A0 : Option Addr) (c0 : Nat) (l0 : List Int) (a1 : Int) (r : List Int) (w : World) (hr0 : Kd.C (Kd.int .u8) w A0 l0.length l0) (hc0 : l0.length ≤ c0) (h : codicilref05_Wrap.f k l0 a1 = some r) :
    Calls Try.prog 33 #[.slice A0 l0.length c0, .int .i64 a1] w fun e w' => ∃ v0_ : Value, e = .returned (v0_) ∧ Kd.R (Kd.int .u8) 5 w' w.heap.size (fun _ => True) v0_ r ∧ Below w.heap.size w w' := by
  have HR0 := Aside0.mk hr0
  have HC0 := Aside0.mk hc0
  clear hr0 hc0
  have HB := Aside0.mk (Below.refl w.heap.size w)
  have H : ((some (([120, 1] : List Int) : List Int)).bind fun y150 => ((codicilref04_Deflate.f l0 a1).bind fun t153 => (if y150.length + t153.length < 140737488355328 then ((some (y150 ++ t153 : List Int)).bind fun y156 => ((codicilref05_Adler.f k l0).bind fun t159 => ((some (([(t159 / 16777216) % 256, (t159 / 65536) % 256, (t159 / 256) % 256, (t159) % 256] : List Int) : List Int)).bind fun y160 => (if y156.length + y160.length < 140737488355328 then (some (y156 ++ y160)) else (none))))) else (none)))) = some r := h
  clear h
  obtain ⟨y150, hy150⟩ : ∃ y_ : List Int, y_ = (([120, 1] : List Int)) := ⟨_, rfl⟩
  replace H : ((codicilref04_Deflate.f l0 a1).bind fun t153 => (if y150.length + t153.length < 140737488355328 then ((some (y150 ++ t153 : List Int)).bind fun y156 => ((codicilref05_Adler.f k l0).bind fun t159 => ((some (([(t159 / 16777216) % 256, (t159 / 65536) % 256, (t159 / 256) % 256, (t159) % 256] : List Int) : List Int)).bind fun y160 => (if y156.length + y160.length < 140737488355328 then (some (y156 ++ y160)) else (none))))) else (none))) = some r := by first | (rw [hy150]; with_reducible exact H) | (have H2_ := (Option.bind_some _ _).symm.trans H; rw [hy150]; with_reducible exact H2_) | (have H2_ := (Option.bind_some _ _).symm.trans H; with_reducible exact H2_) | with_reducible exact H | (rw [hy150]; exact H) | exact H
  have Ny150 := Aside0.mk hy150
  clear hy150
  replace H := Option.bind_eq_some_iff.mp H
  obtain ⟨t153, A30, H⟩ := H
  replace H : (if y150.length + t153.length < 140737488355328 then ((some (y150 ++ t153 : List Int)).bind fun y156 => ((codicilref05_Adler.f k l0).bind fun t159 => ((some (([(t159 / 16777216) % 256, (t159 / 65536) % 256, (t159 / 256) % 256, (t159) % 256] : List Int) : List Int)).bind fun y160 => (if y156.length + y160.length < 140737488355328 then (some (y156 ++ y160)) else (none))))) else (none)) = some r := H
  have A3 := Aside0.mk A30
  clear A30
  by_cases c4 : y150.length + t153.length < 140737488355328
  · rw [if_pos c4] at H
    have LMc4 := Aside0.mk c4
    clear c4
    obtain ⟨y156, hy156⟩ : ∃ y_ : List Int, y_ = (y150 ++ t153) := ⟨_, rfl⟩
    replace H : ((codicilref05_Adler.f k l0).bind fun t159 => ((some (([(t159 / 16777216) % 256, (t159 / 65536) % 256, (t159 / 256) % 256, (t159) % 256] : List Int) : List Int)).bind fun y160 => (if y156.length + y160.length < 140737488355328 then (some (y156 ++ y160)) else (none)))) = some r := by first | (rw [hy156]; with_reducible exact H) | (have H2_ := (Option.bind_some _ _).symm.trans H; rw [hy156]; with_reducible exact H2_) | (have H2_ := (Option.bind_some _ _).symm.trans H; with_reducible exact H2_) | with_reducible exact H | (rw [hy156]; exact H) | exact H
    have Ny156 := Aside0.mk hy156
    clear hy156
    replace H := Option.bind_eq_some_iff.mp H
    obtain ⟨t159, A50, H⟩ := H
    replace H : ((some (([(t159 / 16777216) % 256, (t159 / 65536) % 256, (t159 / 256) % 256, (t159) % 256] : List Int) : List Int)).bind fun y160 => (if y156.length + y160.length < 140737488355328 then (some (y156 ++ y160)) else (none))) = some r := H
    have A5 := Aside0.mk A50
    clear A50
    obtain ⟨y160, hy160⟩ : ∃ y_ : List Int, y_ = (([(t159 / 16777216) % 256, (t159 / 65536) % 256, (t159 / 256) % 256, (t159) % 256] : List Int)) := ⟨_, rfl⟩
    replace H : (if y156.length + y160.length < 140737488355328 then (some (y156 ++ y160)) else (none)) = some r := by first | (rw [hy160]; with_reducible exact H) | (have H2_ := (Option.bind_some _ _).symm.trans H; rw [hy160]; with_reducible exact H2_) | (have H2_ := (Option.bind_some _ _).symm.trans H; with_reducible exact H2_) | with_reducible exact H | (rw [hy160]; exact H) | exact H
    have Ny160 := Aside0.mk hy160
    clear hy160
    by_cases c6 : y156.length + y160.length < 140737488355328
    · rw [if_pos c6] at H
      have LMc6 := Aside0.mk c6
      clear c6
      obtain ⟨y163, hy163⟩ : ∃ y_ : List Int, y_ = (y156 ++ y160) := ⟨_, rfl⟩
      replace H : (some y163) = some r := by first | (rw [hy163]; with_reducible exact H) | (have H2_ := (Option.bind_some _ _).symm.trans H; rw [hy163]; with_reducible exact H2_) | (have H2_ := (Option.bind_some _ _).symm.trans H; with_reducible exact H2_) | with_reducible exact H | (rw [hy163]; exact H) | exact H
      have Ny163 := Aside0.mk hy163
      clear hy163
      obtain rfl := Option.some.inj H
      go_enter Try.func33, Try.ntmps33
      go_wp2_with (first | ((with_reducible refine gate_dst (N := 7) rfl ?_); refine Kd.R_lit (Kd.int .u8) _ 5 ?hg (N := 7) ?hd (xs := ([120, 1] : List Int)) (inner := [.int .u8 120, .int .u8 1]) (ok := fun _ => True) (okp := fun _ => True) ?hr ?hp (fun _ hk => hk) trivial (Below.refl _ _) (Nat.le_refl _) (by simp) ?_; (case hd => rfl); (case hg => rfl); (case hr => first | (go_simp; done) | (go_simp; rfl)); (case hp => exact (Reps.one (show Kd.M (Kd.int .u8) _ _ _ 120 [.int .u8 120] from rfl) (Reps.one (show Kd.M (Kd.int .u8) _ _ _ 1 [.int .u8 1] from rfl) (Reps.none _ _)))); intro v151 w7 ho8 hb hg_ hnew_; clear hg_ hnew_; (first | rw [← Ny150.out] at ho8 | (simp only [Int.reduceToNat] at ho8; rw [← Ny150.out] at ho8)); have n0_ := Aside0.mk (Kd.R_lower ho8 (below_size (by repeat (first | (with_reducible first | exact HB.out | apply below_alloc | apply pw_below_drewN | apply below_drew1) | exact HB.out)))); have n1_ := Aside0.mk (below_step (by repeat (first | (with_reducible first | exact HB.out | apply below_alloc | apply pw_below_drewN | apply below_drew1) | exact HB.out)) hb); clear HB; have HO152 := n0_; have HB := n1_; clear n0_ n1_; clear hb ho8) | ((with_reducible refine gate_callee (f := 26) rfl ?_); refine goesL_ (some 11) rfl rfl Try.func26 (by kernel_rfl) rfl #[.slice A0 l0.length c0, .int .i64 a1] rfl (by (try simp only [List.map_toArray, List.map_cons, List.map_nil]); first | done | rfl | (simp only [List.length_drop, List.length_take]; rfl)) ?_; (with_reducible refine (codicilref04_Deflate.calls _ _ l0 a1 t153 _ ?side1 ?side2 A3.out).mono ?_); (case side1 => repeat (first | exact (Kd.C_below HR0.out HB.out) | (with_reducible refine Kd.C_alloc ?_ _) | (with_reducible refine Kd.C_drewN ?_ _) | (with_reducible refine Kd.C_drew ?_))); (case side2 => exact HC0.out); rintro e w9 ⟨v154, rfl, ho0, hb⟩; refine ⟨_, rfl, ?_⟩; have n0_ := Aside0.mk (Kd.R_elder' (by (with_reducible repeat (first | apply Kd.R_alloc | apply Kd.R_drewN | apply Kd.R_drew)); exact HO152.out) (Kd.R_base ho0) hb); have n1_ := Aside0.mk (Kd.R_lower (Kd.R_new' ho0 (Kd.R_lt (by (with_reducible repeat (first | apply Kd.R_alloc | apply Kd.R_drewN | apply Kd.R_drew)); exact HO152.out))) (below_size (by repeat (first | (with_reducible first | exact HB.out | apply below_alloc | apply pw_below_drewN | apply below_drew1) | exact HB.out)))); have n2_ := Aside0.mk (below_step (by repeat (first | (with_reducible first | exact HB.out | apply below_alloc | apply pw_below_drewN | apply below_drew1) | exact HB.out)) hb); clear HO152; clear HB; have HO152 := n0_; have HO155 := n1_; have HB := n2_; clear n0_ n1_ n2_; (try clear hb); (try clear hb2); (try clear hk); (try clear hi); (try clear ho0); obtain ⟨Ao11, co11, eo11⟩ := Kd.R_slice HO155.out; subst eo11) | ((with_reducible refine gate_builtin (b := .append) (xs := #[.tmp 8, .tmp 11]) rfl ?_); at_builtin; refine Kd.R_append_rows (Kd.int .u8) (w0 := w) w.heap.size rfl (.tmp 8) (.tmp 11) 22 5 (.int .u8 0) 1 rfl Try.underlying22 info5 rfl (by decide) (by omega) v151 y150 t153 _ _ _ (fun k_ => some k_ ≠ (.slice Ao11 t153.length co11 : Value).ownBlock) (fun _ => False) rfl rfl ?aO ?aR (fun _ _ h => h) (fun _ h => h.elim) ?aF ?aB ?aS ?aL ?_; (case aR => repeat (first | exact (Kd.R_reads' HO155.out).2.2 | (with_reducible refine Kd.C_alloc ?_ _) | (with_reducible refine Kd.C_drewN ?_ _) | (with_reducible refine Kd.C_drew ?_))); (case aB => exact (by repeat (first | (with_reducible first | exact HB.out | apply below_alloc | apply pw_below_drewN | apply below_drew1) | exact HB.out))); (case aF => exact (fun k_ hk => Kd.fresh' (Kd.R_lt (by (with_reducible repeat (first | apply Kd.R_alloc | apply Kd.R_drewN | apply Kd.R_drew)); exact HO155.out)) k_ hk)); (case aO => exact (by (with_reducible repeat (first | apply Kd.R_alloc | apply Kd.R_drewN | apply Kd.R_drew)); exact Kd.R_mono HO152.out (fun _ hk => hk.2))); (case aS => exact (below_size (by repeat (first | (with_reducible first | exact HB.out | apply below_alloc | apply pw_below_drewN | apply below_drew1) | exact HB.out)))); (case aL => have := LMc4.out; omega); intro v157 w10 ho hb hg hat; rw [← Ny156.out] at ho; have n0_ := Aside0.mk (Kd.R_after (ok := (fun _ => True)) (by (with_reducible repeat (first | apply Kd.R_alloc | apply Kd.R_drewN | apply Kd.R_drew)); exact HO155.out) hg hat); have n1_ := Aside0.mk (hb); have n2_ := Aside0.mk (ho); clear HO155; clear HB; clear HO152; have HO155 := n0_; have HB := n1_; have HO158 := n2_; clear n0_ n1_ n2_; clear ho hb hg hat) | ((with_reducible refine gate_callee (f := 11) rfl ?_); refine goesL_ (some 14) rfl rfl Try.func11 (by kernel_rfl) rfl #[.slice A0 l0.length c0] rfl (by (try simp only [List.map_toArray, List.map_cons, List.map_nil]); first | done | rfl | (simp only [List.length_drop, List.length_take]; rfl)) ?_; (with_reducible refine (codicilref05_Adler.calls k _ _ l0 t159 _ ?side1 ?side2 A5.out).mono ?_); (case side1 => repeat (first | exact (Kd.C_below HR0.out HB.out) | (with_reducible refine Kd.C_alloc ?_ _) | (with_reducible refine Kd.C_drewN ?_ _) | (with_reducible refine Kd.C_drew ?_))); (case side2 => exact HC0.out); rintro e w' ⟨rfl, ⟨nd, rfl⟩⟩; refine ⟨_, rfl, ?_⟩) | ((with_reducible refine gate_dst (N := 27) rfl ?_); refine Kd.R_lit (Kd.int .u8) _ 5 ?hg (N := 27) ?hd (xs := ([(t159 / 16777216) % 256, (t159 / 65536) % 256, (t159 / 256) % 256, (t159) % 256] : List Int)) (inner := [.int .u8 ((t159 / 16777216) % 256), .int .u8 ((t159 / 65536) % 256), .int .u8 ((t159 / 256) % 256), .int .u8 ((t159) % 256)]) (ok := fun _ => True) (okp := fun _ => True) ?hr ?hp (fun _ hk => hk) trivial (Below.refl _ _) (Nat.le_refl _) (by simp) ?_; (case hd => rfl); (case hg => rfl); (case hr => first | (go_simp; done) | (go_simp; rfl)); (case hp => exact (Reps.one (show Kd.M (Kd.int .u8) _ _ _ ((t159 / 16777216) % 256) [.int .u8 ((t159 / 16777216) % 256)] from rfl) (Reps.one (show Kd.M (Kd.int .u8) _ _ _ ((t159 / 65536) % 256) [.int .u8 ((t159 / 65536) % 256)] from rfl) (Reps.one (show Kd.M (Kd.int .u8) _ _ _ ((t159 / 256) % 256) [.int .u8 ((t159 / 256) % 256)] from rfl) (Reps.one (show Kd.M (Kd.int .u8) _ _ _ ((t159) % 256) [.int .u8 ((t159) % 256)] from rfl) (Reps.none _ _)))))); intro v161 w12 ho13 hb hg_ hnew_; clear hg_ hnew_; (first | rw [← Ny160.out] at ho13 | (simp only [Int.reduceToNat] at ho13; rw [← Ny160.out] at ho13)); have n0_ := Aside0.mk (Kd.R_elder' (by (with_reducible repeat (first | apply Kd.R_alloc | apply Kd.R_drewN | apply Kd.R_drew)); exact HO155.out) (Kd.R_base ho13) hb); have n1_ := Aside0.mk (Kd.R_elder' (by (with_reducible repeat (first | apply Kd.R_alloc | apply Kd.R_drewN | apply Kd.R_drew)); exact HO158.out) (Kd.R_base ho13) hb); have n2_ := Aside0.mk (Kd.R_lower (Kd.R_new' (Kd.R_new' ho13 (Kd.R_lt (by (with_reducible repeat (first | apply Kd.R_alloc | apply Kd.R_drewN | apply Kd.R_drew)); exact HO155.out))) (Kd.R_lt (by (with_reducible repeat (first | apply Kd.R_alloc | apply Kd.R_drewN | apply Kd.R_drew)); exact HO158.out))) (below_size (by repeat (first | (with_reducible first | exact HB.out | apply below_alloc | apply pw_below_drewN | apply below_drew1) | exact HB.out)))); have n3_ := Aside0.mk (below_step (by repeat (first | (with_reducible first | exact HB.out | apply below_alloc | apply pw_below_drewN | apply below_drew1) | exact HB.out)) hb); clear HO155; clear HO158; clear HB; have HO155 := n0_; have HO158 := n1_; have HO162 := n2_; have HB := n3_; clear n0_ n1_ n2_ n3_; clear hb ho13; obtain ⟨Ao15, co15, eo15⟩ := Kd.R_slice HO162.out; subst eo15) | ((with_reducible refine gate_builtin (b := .append) (xs := #[.tmp 15, .tmp 27]) rfl ?_); at_builtin; refine Kd.R_append_rows (Kd.int .u8) (w0 := w) w.heap.size rfl (.tmp 15) (.tmp 27) 22 5 (.int .u8 0) 1 rfl Try.underlying22 info5 rfl (by decide) (by omega) v157 y156 y160 _ _ _ (fun k_ => some k_ ≠ (.slice Ao11 t153.length co11 : Value).ownBlock ∧ some k_ ≠ (.slice Ao15 y160.length co15 : Value).ownBlock) (fun _ => False) rfl rfl ?aO ?aR (fun _ _ h => h) (fun _ h => h.elim) ?aF ?aB ?aS ?aL ?_; (case aR => repeat (first | exact (Kd.R_reads' HO162.out).2.2 | (with_reducible refine Kd.C_alloc ?_ _) | (with_reducible refine Kd.C_drewN ?_ _) | (with_reducible refine Kd.C_drew ?_))); (case aB => exact (by repeat (first | (with_reducible first | exact HB.out | apply below_alloc | apply pw_below_drewN | apply below_drew1) | exact HB.out))); (case aF => exact (fun k_ hk => ⟨Kd.fresh' (Kd.R_lt (by (with_reducible repeat (first | apply Kd.R_alloc | apply Kd.R_drewN | apply Kd.R_drew)); exact HO155.out)) k_ hk, Kd.fresh' (Kd.R_lt (by (with_reducible repeat (first | apply Kd.R_alloc | apply Kd.R_drewN | apply Kd.R_drew)); exact HO162.out)) k_ hk⟩)); (case aO => exact (by (with_reducible repeat (first | apply Kd.R_alloc | apply Kd.R_drewN | apply Kd.R_drew)); exact HO158.out)); (case aS => exact (below_size (by repeat (first | (with_reducible first | exact HB.out | apply below_alloc | apply pw_below_drewN | apply below_drew1) | exact HB.out)))); (case aL => have := LMc6.out; omega); intro v164 w14 ho hb hg hat; rw [← Ny163.out] at ho; have n0_ := Aside0.mk (Kd.R_after (ok := (fun k_ => some k_ ≠ (.slice Ao15 y160.length co15 : Value).ownBlock)) (by (with_reducible repeat (first | apply Kd.R_alloc | apply Kd.R_drewN | apply Kd.R_drew)); exact Kd.R_mono HO155.out (fun _ hk => ⟨hk.2, hk.1.2⟩)) hg hat); have n1_ := Aside0.mk (Kd.R_after (ok := (fun k_ => some k_ ≠ (.slice Ao11 t153.length co11 : Value).ownBlock)) (by (with_reducible repeat (first | apply Kd.R_alloc | apply Kd.R_drewN | apply Kd.R_drew)); exact Kd.R_mono HO162.out (fun _ hk => ⟨hk.1.2, hk.2⟩)) hg hat); have n2_ := Aside0.mk (hb); have n3_ := Aside0.mk (ho); clear HO155; clear HO162; clear HB; clear HO158; have HO155 := n0_; have HO162 := n1_; have HB := n2_; have HO165 := n3_; clear n0_ n1_ n2_ n3_; clear ho hb hg hat))
      go_ret
      exact ⟨_, by first | rfl | (simp [errW_none, errW_some] <;> rfl) | (simp [*, errW_none, errW_some] <;> rfl), by (with_reducible repeat (first | apply Kd.R_alloc | apply Kd.R_drewN | apply Kd.R_drew)); exact Kd.R_mono HO165.out (fun _ hk => trivial), by repeat (first | (with_reducible first | exact HB.out | apply below_alloc | apply pw_below_drewN | apply below_drew1) | exact HB.out)⟩
    · rw [if_neg c6] at H
      exact absurd H (by simp)
  · rw [if_neg c4] at H
    exact absurd H (by simp)

end Go.Proofs.Ytkdklcamgcmifaa.PDW
