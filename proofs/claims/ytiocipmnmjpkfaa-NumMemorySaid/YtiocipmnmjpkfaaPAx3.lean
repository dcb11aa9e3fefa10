-- Written by fprint.py, a program of this session, over the translation. Not trusted: Lean checks it.
import Derived.Test.YtiocipmnmjpkfaaPAx0
import Derived.Test.YtiocipmnmjpkfaaPAx1
import Derived.Test.YtiocipmnmjpkfaaPAx2
namespace Go.Proofs.Ytiocipmnmjpkfaa.PA
open Go.RowKit Go.Proofs.YtiocipmnmjpkfaaW.PrintWords Go.Proofs.YtiocipmnmjpkfaaW.PrintLast Go.Proofs.YtiocipmnmjpkfaaW.PrintMore
attribute [local go_sem] max2_int min2_int max_two min_two max_three min_three max_four min_four   -- for this text's walks alone
set_option linter.unusedVariables false
set_option linter.unusedSimpArgs false

/-! ### codicilref01_Kept: function 27 -/
def codicilref01_Kept.f (l0 : List Int) (l1 : List Int) : Option (Bool) := if l1 = l0 ++ [41, 42, 43, 44] ∧ l1.length ≤ 9223372036854775807 then some true else none
set_option maxHeartbeats 1000000 in
theorem codicilref01_Kept.calls (A0 : Option Addr) (c0 : Nat) (l0 : List Int) (A1 : Option Addr) (c1 : Nat) (l1 : List Int) (r : Bool) (w : World) (hr0 : Kd.C (Kd.int .u8) w A0 l0.length l0) (hc0 : l0.length ≤ c0) (hr1 : Kd.C (Kd.int .u8) w A1 l1.length l1) (hc1 : l1.length ≤ c1) (h : codicilref01_Kept.f l0 l1 = some r) :
    Calls Try.prog 27 #[.slice A0 l0.length c0, .slice A1 l1.length c1] w fun e w' => e = .returned (.bool r) ∧ Below w.heap.size w w' := by
  unfold codicilref01_Kept.f at h
  split at h
  · rename_i hb
    obtain rfl := Option.some.inj h
    obtain ⟨he, hlm⟩ := hb
    have hlen : l1.length = l0.length + 4 := by rw [he]; simp
    have HR0 := Lib.hid hr0
    have HR1 := Lib.hid (Kd.reads_of_C (enc := Value.int .u8) (d := 0) hr1)
    have HE := Lib.hid he
    clear hr0 hr1 he h
    rw [hlen] at hc1 hlm
    rw [hlen]
    have h1 : (((l0.length : Int) + 4) == ((l0.length : Int) + 4)) = true := by simp
    have e1 : l1.take l0.length = l0 := by rw [HE.out]; simp
    have e2 : l1.drop l0.length = [41, 42, 43, 44] := by rw [HE.out]; simp
    obtain ⟨i011, hi011, _, hsz11, _⟩ := info_parts infoU8
    have hr1' := HR1.out
    rw [hlen] at hr1'
    obtain ⟨A2, hcut, hA2⟩ := print_cut_of (P := Try.prog) (Value.int .u8) 0 22 5 .i64 Try.underlying22 hi011 hsz11 A1 (l0.length + 4) c1 l0.length (by omega)
    have hr2 := hA2 w l1 hc1 hr1'
    rw [show l0.length + 4 - l0.length = 4 from by omega, e2] at hr2
    rw [show l0.length + 4 - l0.length = 4 from by omega] at hcut
    have hrt : ReadsOf (Value.int .u8) 0 w A1 l0.length l0 := by
      have h := hr1'.take_ l0.length (by omega)
      rwa [e1] at h
    have HT := Lib.hid hrt
    have H2 := Lib.hid hr2
    clear hrt hr2 hA2 hr1' e1 e2 hlen hi011 hsz11
    have hs1 : codicilref01_Same.f l0 l0 = some true := by simp [codicilref01_Same.f]
    have hs2 : codicilref01_Same.f [41, 42, 43, 44] [41, 42, 43, 44] = some true := by simp [codicilref01_Same.f]
    have HS1 := Lib.hid hs1
    have HS2 := Lib.hid hs2
    clear hs1 hs2
    go_enter Try.func27, Try.ntmps27
    go_wp2_with fail
    refine (codicilref01_Same.calls _ _ l0 _ _ l0 true _ (Kd.C_of_reads HT.out) (by omega) HR0.out hc0 HS1.out).mono ?_
    rintro e w1 ⟨rfl, hd⟩
    obtain ⟨n1, rfl⟩ := hd.out
    go_wp2_with fail
    refine (codicilref01_Same.calls A2 _ [41, 42, 43, 44] _ _ [41, 42, 43, 44] true _ (Kd.C_of_reads (H2.out.below ?_)) (by simp; omega) (toC ?_) (by simp) HS2.out).mono ?_
    · exact below_alloc (pw_below_drewN (Below.refl _ _) _) _
    · exact own_reads' (own_lit (w.drewN n1) _ 5 .u8 [41, 42, 43, 44] (Nat.le_refl _) (by simp))
    rintro e w1 ⟨rfl, hd⟩
    obtain ⟨n2, rfl⟩ := hd.out
    go_wp2_with fail
    go_ret
    exact ⟨rfl, pw_below_drewN (below_alloc (pw_below_drewN (Below.refl _ _) _) _) _⟩
  · cases h


/-! ### codicillaw02_NumMemory: function 4 -/
def codicillaw02_NumMemory.Pure : Prop := codicillaw02_awake.f = some true ∧ ∀ (l0 : List Int) (a1 : Int), l0.length * 1 ≤ 140737488351232 → 0 ≤ a1 → a1 < 18446744073709551616 → ∃ k, codicilref02_DocPutSize.f k l0 a1 = some (l0 ++ sizeL 10 a1)
set_option maxHeartbeats 4000000 in
set_option maxRecDepth 100000 in
theorem numMemory_calls (P : codicillaw02_NumMemory.Pure) (A : Option Addr) (c : Nat) (l : List Int) (v : Int) (w : World) (hl : ReadsInt w .u8 A l.length l) (hc : l.length ≤ c) (hn : l.length * 1 ≤ 140737488351232) (h0 : 0 ≤ v) (h1 : v < 18446744073709551616) :
    Calls Try.prog 4 #[.slice A l.length c, .int .u64 v] w fun e w' => e = .returned (.bool true) ∧ Below w.heap.size w w' := by
  have HL := Lib.hid hl
  have HAW := Lib.hid P.1
  obtain ⟨kd, hkd⟩ := P.2 l v hn h0 h1
  have HDOC := Lib.hid hkd
  clear hl hkd P
  go_enter Try.func4, Try.ntmps4
  go_wp2_with fail
  refine (codicillaw02_awake.calls true _ HAW.out).mono ?_
  rintro e w0 ⟨rfl, hb0⟩
  have HB0 := Lib.hid hb0
  clear hb0
  go_wp2_with fail
  refine (spare_calls _ _ l _ (HL.out.below HB0.out) (by omega)).mono ?_
  rintro e w1 ⟨g, cap, rfl, hf1, hb1⟩
  have HF := Lib.hid hf1
  have hfo : w1.ownsRow w0.heap.size 5 1 (.slice (some ⟨g, 0, none⟩) (l.length + 4) cap) (l.length + 4) (nums .u8 (l ++ [41, 42, 43, 44])) := by simpa [Bs] using hf1
  have HFO := Lib.hid hfo
  have hx : ReadsInt w1 .u8 (some ⟨g, 0, none⟩) l.length l := by
    have h := (own_reads' hfo).take_ l.length (by omega)
    simpa using h
  have HX1 := Lib.hid hx
  have HB1 := Lib.hid hb1
  clear hf1 hx hb1 hfo
  go_wp2_with fail
  refine (putSize_calls _ _ l v _ HX1.out (by omega) h0 h1).mono ?_
  rintro e w2 ⟨ra, rfl, ha, hb2⟩
  have HA := Lib.hid ha
  have HB2 := Lib.hid hb2
  clear ha hb2
  go_wp2_with fail
  refine (putSize_calls _ _ l v _ (HX1.out.below HB2.out) (by omega) h0 h1).mono ?_
  rintro e w3 ⟨rb, rfl, hb', hb3⟩
  have HBB := Lib.hid hb'
  have HB3 := Lib.hid hb3
  clear hb' hb3
  have HB13 := Lib.hid (below_then HB2.out HB2.out.size HB3.out)
  go_wp2_with fail
  refine (putBig_calls _ _ l 5 3 _ (HX1.out.below HB13.out) (by omega) (by omega) (by omega) (by omega) (by omega) (by omega)).mono ?_
  rintro e w4 ⟨rc, rfl, hc', hb4⟩
  have HC := Lib.hid hc'
  have HB4 := Lib.hid hb4
  clear hc' hb4
  have HB14 := Lib.hid (below_then HB13.out HB13.out.size HB4.out)
  go_wp2_with fail
  refine (putSpan_calls _ _ l v _ (HX1.out.below HB14.out) (by omega) h0 h1).mono ?_
  rintro e w5 ⟨rd, rfl, hd', hb5⟩
  have HD := Lib.hid hd'
  have HB5 := Lib.hid hb5
  clear hd' hb5
  have HB15 := Lib.hid (below_then HB14.out HB14.out.size HB5.out)
  go_wp2_with fail
  refine (putHead_calls _ _ l 1 v _ (HX1.out.below HB15.out) (by omega) (by omega) (by omega) h0 h1).mono ?_
  rintro e w6 ⟨rf, rfl, hf', hb6⟩
  have HFF := Lib.hid hf'
  have HB6 := Lib.hid hb6
  clear hf' hb6
  have HB16 := Lib.hid (below_then HB15.out HB15.out.size HB6.out)
  have HB06 := Lib.hid (below_then HB1.out HB1.out.size HB16.out)
  have HBW6 := Lib.hid (below_then HB0.out HB0.out.size HB06.out)
  go_wp2_with fail
  have HK : Hid (codicilref01_Kept.f l (l ++ [41, 42, 43, 44]) = some true) := by
    unfold codicilref01_Kept.f
    rw [if_pos ⟨rfl, by simp; omega⟩]
    exact rfl
  have hfr : ReadsInt w6 .u8 (some ⟨g, 0, none⟩) (l ++ [41, 42, 43, 44]).length (l ++ [41, 42, 43, 44]) := by
    have h := own_reads' (pw_own_below HFO.out HB16.out)
    simpa using h
  have HFR := Lib.hid hfr
  clear hfr
  have hcap : l.length + 4 ≤ cap := (own_cap HFO.out).1
  have hk := codicilref01_Kept.calls A c l (some ⟨g, 0, none⟩) cap (l ++ [41, 42, 43, 44]) true w6 (toC (HL.out.below HBW6.out)) hc (toC HFR.out) (by simp; omega) HK.out
  have hlen4 : (l ++ [41, 42, 43, 44] : List Int).length = l.length + 4 := by simp
  rw [hlen4] at hk
  clear hlen4
  refine hk.mono ?_
  rintro e w7 ⟨rfl, hb7⟩
  have HB7 := Lib.hid hb7
  clear hb7 hk
  obtain ⟨Aa, na, ca, rfl, oa, _⟩ := HA.out.open_
  obtain ⟨Ab, nb, cb, rfl, ob, hnb⟩ := HBB.out.open_
  obtain ⟨Ac, nc, cc, rfl, oc, _⟩ := HC.out.open_
  obtain ⟨Ad, nd, cd, rfl, od, _⟩ := HD.out.open_
  obtain ⟨Af, nf, cf, rfl, of', _⟩ := HFF.out.open_
  go_wp2_with fail
  obtain ⟨vs, hvs⟩ : ∃ vs : List Value, vs = [.slice (some ⟨g, 0, none⟩) (l.length + 4) cap, .slice Aa na ca, .slice Ac nc cc, .slice Ad nd cd, .slice Af nf cf] := ⟨_, rfl⟩
  have hB67 : Below w6.heap.size w6 w7 := HB7.out
  have h56 : Below w5.heap.size w5 w7 := below_then HB6.out HB6.out.size hB67
  have h46 : Below w4.heap.size w4 w7 := below_then HB5.out HB5.out.size h56
  have h36 : Below w3.heap.size w3 w7 := below_then HB4.out HB4.out.size h46
  have h26 : Below w2.heap.size w2 w7 := below_then HB3.out HB3.out.size h36
  have h16 : Below w1.heap.size w1 w7 := below_then HB2.out HB2.out.size h26
  have h06 : Below w0.heap.size w0 w7 := below_then HB1.out HB1.out.size h16
  have hw6 : Below w.heap.size w w7 := below_then HB0.out HB0.out.size h06
  have hall : OwnAll 5 w7 vs := by
    subst hvs
    intro v hv
    simp only [List.mem_cons, List.not_mem_nil, or_false] at hv
    rcases hv with rfl | rfl | rfl | rfl | rfl
    · exact ⟨_, _, _, pw_own_below HFO.out h16⟩
    · exact ⟨_, _, _, pw_own_below oa.out h26⟩
    · exact ⟨_, _, _, pw_own_below oc.out h46⟩
    · exact ⟨_, _, _, pw_own_below od.out h56⟩
    · exact ⟨_, _, _, pw_own_below of'.out hB67⟩
  have hge : ∀ k, k ∈ blocksOf vs → w.heap.size ≤ k := by
    subst hvs
    intro k hk
    obtain ⟨v, hv, hb⟩ := mem_blocksOf.1 hk
    have s0 := HB0.out.size
    have s1 := HB1.out.size
    have s2 := HB2.out.size
    have s3 := HB3.out.size
    have s4 := HB4.out.size
    have s5 := HB5.out.size
    simp only [List.mem_cons, List.not_mem_nil, or_false] at hv
    rcases hv with rfl | rfl | rfl | rfl | rfl
    · have := own_base HFO.out k hb; omega
    · have := own_base oa.out k hb; omega
    · have := own_base oc.out k hb; omega
    · have := own_base od.out k hb; omega
    · have := own_base of'.out k hb; omega
  have hlt : ∀ k, k ∈ blocksOf vs → k < w7.heap.size := by
    intro k hk
    obtain ⟨v, hv, hb⟩ := mem_blocksOf.1 hk
    obtain ⟨_, _, _, ho⟩ := hall v hv
    exact own_lt ho k hb
  have hbn : ∀ k, Value.ownBlock (.slice Ab nb cb) = some k → k ∉ blocksOf vs := by
    subst hvs
    intro k hk hm
    obtain ⟨v, hv, hb⟩ := mem_blocksOf.1 hm
    have b1 := own_base ob.out k hk
    have b2 := own_lt ob.out k hk
    have s2 := HB2.out.size
    have s4 := HB4.out.size
    have s5 := HB5.out.size
    simp only [List.mem_cons, List.not_mem_nil, or_false] at hv
    rcases hv with rfl | rfl | rfl | rfl | rfl
    · have := own_lt HFO.out k hb; omega
    · have := own_lt oa.out k hb; omega
    · have := own_base oc.out k hb; omega
    · have := own_base od.out k hb; omega
    · have := own_base of'.out k hb; omega
  have hob7 := pw_own_below ob.out h36
  have HVS := Lib.hid hvs
  have HALL := Lib.hid hall
  have HGE := Lib.hid hge
  have HLT := Lib.hid hlt
  have HBN := Lib.hid hbn
  have HOB := Lib.hid hob7
  have HW6 := Lib.hid hw6
  clear hvs hall hge hlt hbn hob7 hw6 h06 h16 h26 h36 h46 h56 hB67
  go_loopw [55] (fun i wr => ∃ k : Nat, k ≤ 5 ∧ i = .int .i64 k ∧ Smash 5 (blocksOf vs) (w7.alloc (.cells vs.toArray 22)) wr) (fun i _ => 5 - (intOf i).toNat)
  case atStart =>
    refine ⟨0, by omega, rfl, ?_⟩
    have h : OwnAll 5 (w7.alloc (.cells vs.toArray 22)) vs := fun v hv => by
      obtain ⟨a, b, c, ho⟩ := HALL.out v hv
      exact ⟨a, b, c, ho.alloc _⟩
    have h2 := h.smash
    rw [HVS.out] at h2 ⊢
    exact h2
  case round =>
    obtain ⟨k, hk, rfl, hS⟩ := hrel
    have HS := Lib.hid hS
    clear hS
    obtain ⟨wo, rfl⟩ : ∃ wo : World, wo = wr := ⟨_, rfl⟩
    by_cases hlt : k < 5
    · obtain ⟨An, nn, cn, e1, e2, e3⟩ := HALL.out.may k (by rw [HVS.out]; simpa using hlt)
      have hcell : wo.cell? ⟨w7.heap.size, k, none⟩ = some (.slice An nn cn) := by
        rw [HS.out.cell_far (heap_alloc_new w7 _) (fun hm => by have := HLT.out _ hm; omega)]
        simpa using e1
      have E3 := Lib.hid e3
      clear e1 e3
      go_wp2_with fail
      go_loopw [61] (fun i wr => ∃ j : Nat, j ≤ nn ∧ i = .int .i64 j ∧ Smash 5 (blocksOf vs) (w7.alloc (.cells vs.toArray 22)) wr) (fun i _ => nn - (intOf i).toNat)
      case atStart => exact ⟨0, by omega, rfl, HS.out⟩
      case round =>
        obtain ⟨j, hj, rfl, hT⟩ := hrel
        have HT := Lib.hid hT
        clear hT hcell
        by_cases hjl : j < nn
        · obtain ⟨gn, hAn, hgn, hln⟩ := E3.out (by omega)
          subst hAn
          have hln' : nn ≤ blockLen (w7.alloc (.cells vs.toArray 22)) gn := by
            have : (w7.alloc (.cells vs.toArray 22)).heap[gn]? = w7.heap[gn]? := Below.heap_alloc w7 _ gn (HLT.out _ hgn)
            unfold blockLen at hln ⊢
            rw [this]
            exact hln
          obtain ⟨u0, hu1, hu2⟩ := HT.out.cell hgn (Nat.lt_of_lt_of_le hjl hln')
          clear hln hln'
          go_wp2_with fail
          go_roundw
          case rel => exact ⟨j + 1, hjl, by go_num, HT.out.set hgn _ _⟩
          case measure => simp [intOf]; omega
        · go_wp2_with fail
          go_roundw
          case rel => exact ⟨k + 1, hlt, by go_num, HT.out⟩
          case measure => simp [intOf]; omega
    · go_wp2_with fail
      have hbl : Below w.heap.size w wo := HS.out.below (HW6.out.alloc HW6.out.size _) HGE.out
      have hob := HS.out.own (HOB.out.alloc (.cells vs.toArray 22)) HBN.out
      have HBL := Lib.hid hbl
      have HOBW := Lib.hid hob
      clear hbl hob
      refine (codicilref02_DocPutSize.calls kd A c l v (l ++ sizeL 10 v) wo (toC (HL.out.below HBL.out)) hc HDOC.out).mono ?_
      rintro e wz ⟨rz, rfl, hrz, hbz⟩
      obtain ⟨Az, nz, cz, rfl, oz, hnz⟩ := (Bs.ofR hrz).open_
      have HBZ := Lib.hid hbz
      clear hbz hrz
      go_wp2_with fail
      have hs : codicilref01_Same.f (l ++ sizeL 10 v) (l ++ sizeL 10 v) = some true := by simp [codicilref01_Same.f]
      have hcb := own_cap HOBW.out
      have hcz := own_cap oz.out
      have hr1 := own_reads' (pw_own_below HOBW.out HBZ.out)
      have hr2 := own_reads' oz.out
      have hc := codicilref01_Same.calls Ab cb _ Az cz _ true wz (toC (by rw [← hnb.out]; exact hr1)) (by rw [← hnb.out]; exact hcb.1) (toC (by rw [← hnz.out]; exact hr2)) (by rw [← hnz.out]; exact hcz.1) hs
      rw [← hnb.out] at hc
      obtain rfl : nz = nb := hnz.out.trans hnb.out.symm
      refine hc.mono ?_
      rintro e wy ⟨rfl, hd⟩
      obtain ⟨n2, rfl⟩ := hd.out
      clear hr1 hr2 hcb hcz hs hc
      go_wp2_with fail
      go_ret
      exact ⟨rfl, pw_below_drewN (below_then HBL.out HBL.out.size HBZ.out) _⟩
theorem codicillaw02_NumMemory.walk (P : codicillaw02_NumMemory.Pure) (a0 : Option Addr) (len0 cap0 : Nat) (z0 : List Int) (a1 : Int) (w : World) (w0 : (a0 = none ∧ len0 = 0 ∧ cap0 = 0 ∧ z0 = []) ∨ ∃ x, a0 = some x ∧ len0 ≤ cap0 ∧ cap0 ≤ maxLen ∧ z0.length = cap0 ∧ (∀ i, i < z0.length → w.cell? (x.add i) = some (.int .u8 (z0.getD i 0))) ∧ ∀ n ∈ z0, (Lit.int .u8 n).wf = true) (y0 : len0 * 1 ≤ 140737488351232) (w1 : (Lit.int .u64 a1).wf = true) :
    Calls Try.prog 4 #[.slice a0 len0 cap0, .int .u64 a1] w fun e w' => e = .returned (.bool true) ∧ Below w.heap.size w w' := by
  obtain ⟨l0, rfl, hr0, hm0, hw0, hc0⟩ := ReadsInt.ofRowC w0
  have h1 : 0 ≤ a1 ∧ a1 ≤ 18446744073709551615 := by simpa [Lit.wf, IntKind.min, IntKind.max, IntKind.signed, IntKind.bits] using w1
  exact numMemory_calls P _ _ l0 a1 w hr0 hc0 y0 h1.1 (by omega)


end Go.Proofs.Ytiocipmnmjpkfaa.PA
