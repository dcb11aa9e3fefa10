/- codicillaw03.InflateMemory: walked. -/
import Derived.Test.YtkdklcamgcmifaaDoorHInfF
import Derived.Test.YtkdklcamgcmifaaDoorHSmash
namespace Go.Proofs.YtkdklcamgcmifaaDoor
set_option linter.unusedVariables false
set_option linter.unusedSimpArgs false
open Go.RowKit Go.Proofs.YtkdklcamgcmifaaDoorW.PrintWords Go.Proofs.YtkdklcamgcmifaaDoorW.PrintMore Go.Proofs.YtkdklcamgcmifaaDoor.PI
theorem kept_yes3 (w : World) (A : Option Addr) (c : Nat) (l : List Int) (g cap : Nat) (hl : ReadsInt w .u8 A l.length l) (hc : l.length ≤ c) (hm : l.length ≤ 100000) (hf : ReadsInt w .u8 (some ⟨g, 0, none⟩) (l.length + 4) (l ++ [41, 42, 43, 44])) (hcap : l.length + 4 ≤ cap) :
    Calls Tryd.prog 18 #[.slice A l.length c, .slice (some ⟨g, 0, none⟩) (l.length + 4) cap] w fun e w' => e = .returned (.bool true) ∧ Hid (Below w.heap.size w w') := by
  have hlen4 : (l ++ [41, 42, 43, 44] : List Int).length = l.length + 4 := by simp
  have HK : codicilref01_Kept.f l (l ++ [41, 42, 43, 44]) = some true := by
    unfold codicilref01_Kept.f
    rw [if_pos ⟨rfl, by simp; omega⟩]
  have hk := codicilref01_Kept.calls A c l (some ⟨g, 0, none⟩) cap (l ++ [41, 42, 43, 44]) true w (toC hl) hc (toC (by rw [hlen4]; exact hf)) (by rw [hlen4]; exact hcap) HK
  rw [hlen4] at hk
  exact hk.mono fun e w' h => ⟨h.1, Lib.hid h.2⟩
set_option maxRecDepth 8000 in
set_option maxHeartbeats 8000000 in
theorem inflateMemory_card (w : World) (A : Option Addr) (c : Nat) (l : List Int) (hl : ReadsInt w .u8 A l.length l) (hby : ∀ x ∈ l, 0 ≤ x ∧ x < 256) (hc : l.length ≤ c) (ho : Ord w) :
    Calls Tryd.prog 6 #[.slice A l.length c] w fun e w' => e = .returned (.bool true) ∧ Below w.heap.size w w' := by
  have HL := Lib.hid hl
  have HBY := Lib.hid hby
  have HO := Lib.hid ho
  have HC := Lib.hid hc
  clear hl hby ho hc
  by_cases hbig : 4000 < l.length
  · have hbI : (l.length : Int) > 4000 := by omega
    go_enter Tryd.func6, Tryd.ntmps6
    go_wp2_with fail
    refine (awake3_calls w HO.out).mono ?_
    rintro e w0 ⟨rfl, hb0⟩
    have HB0 := Lib.hid hb0
    clear hb0
    go_wp2_with fail
    go_ret
    exact ⟨rfl, HB0.out⟩
  have hbI : ¬ (l.length : Int) > 4000 := by omega
  have HM := Lib.hid (show l.length ≤ 4000 by omega)
  obtain ⟨r, hr⟩ : ∃ r, infF l 60000 = r := ⟨_, rfl⟩
  have HR := Lib.hid hr
  clear hr hbig
  go_enter Tryd.func6, Tryd.ntmps6
  go_wp2_with fail
  refine (awake3_calls w HO.out).mono ?_
  rintro e w0 ⟨rfl, hb0⟩
  have HB0 := Lib.hid hb0
  clear hb0
  go_wp2_with fail
  refine (spare_calls _ _ l _ (HL.out.below HB0.out) (by have := HM.out; omega)).mono ?_
  rintro e w1 ⟨g, cap, rfl, hf1, hb1⟩
  have hfo : w1.ownsRow w0.heap.size 5 1 (.slice (some ⟨g, 0, none⟩) (l.length + 4) cap) (l.length + 4) (nums .u8 (l ++ [41, 42, 43, 44])) := by simpa [Bs] using hf1
  have HFO := Lib.hid hfo
  have HX1 : Hid (ReadsInt w1 .u8 (some ⟨g, 0, none⟩) l.length l) := Lib.hid (by
    have h := (own_reads' hfo).take_ l.length (by omega)
    simpa using h)
  have HB1 := Lib.hid hb1
  have HW1 := Lib.hid (below_then HB0.out HB0.out.size hb1)
  have HCAP : Hid (l.length + 4 ≤ cap) := Lib.hid (own_cap HFO.out).1
  clear hf1 hb1 hfo
  go_wp2_with fail
  refine (inflate_any w1 _ l.length cap l 60000 r rfl HX1.out HBY.out (by have := HCAP.out; omega) (by have := HM.out; omega) (HO.out.below HW1.out) HR.out).mono ?_
  rintro e w2 ⟨Aa, ca, rfl, ha, hb2⟩
  have HA := Lib.hid ha.out
  have HB2 := Lib.hid hb2.out
  have HW2 := Lib.hid (below_then HW1.out HW1.out.size hb2.out)
  clear ha hb2
  go_wp2_with fail
  refine (inflate_any w2 _ l.length cap l 60000 r rfl (HX1.out.below HB2.out) HBY.out (by have := HCAP.out; omega) (by have := HM.out; omega) (HO.out.below HW2.out) HR.out).mono ?_
  rintro e w3 ⟨Ab, cb, rfl, hb', hb3⟩
  have HBB := Lib.hid hb'.out
  have HB3 := Lib.hid hb3.out
  have HW3 := Lib.hid (below_then HW2.out HW2.out.size hb3.out)
  have H13 := Lib.hid (below_then HB2.out HB2.out.size hb3.out)
  clear hb' hb3
  go_wp2_with fail
  refine (kept_yes3 w3 A c l g cap (HL.out.below HW3.out) HC.out (by have := HM.out; omega) (by
    have h := own_reads' (pw_own_below HFO.out H13.out)
    exact h) HCAP.out).mono ?_
  rintro e w7 ⟨rfl, hb7⟩
  have HB7 := Lib.hid hb7.out
  clear hb7
  have h27 : Below w2.heap.size w2 w7 := below_then HB3.out HB3.out.size HB7.out
  have h17 : Below w1.heap.size w1 w7 := below_then HB2.out HB2.out.size h27
  have hw7 : Below w.heap.size w w7 := below_then HW3.out HW3.out.size HB7.out
  obtain ⟨vs, hvs⟩ : ∃ vs : List Value, vs = [.slice (some ⟨g, 0, none⟩) (l.length + 4) cap, .slice Aa r.1.length ca] := ⟨_, rfl⟩
  have hall : OwnAll 5 w7 vs := by
    subst hvs
    intro v hv
    simp only [List.mem_cons, List.not_mem_nil, or_false] at hv
    rcases hv with rfl | rfl
    · exact ⟨_, _, _, pw_own_below HFO.out h17⟩
    · exact ⟨_, _, _, pw_own_below HA.out h27⟩
  have hge : ∀ k, k ∈ blocksOf vs → w.heap.size ≤ k := by
    subst hvs
    intro k hk
    obtain ⟨v, hv, hb⟩ := mem_blocksOf.1 hk
    have s0 := HB0.out.size
    have s1 := HB1.out.size
    simp only [List.mem_cons, List.not_mem_nil, or_false] at hv
    rcases hv with rfl | rfl
    · have := own_base HFO.out k hb; omega
    · have := own_base HA.out k hb; omega
  have hbn : ∀ k, Value.ownBlock (.slice Ab r.1.length cb) = some k → k ∉ blocksOf vs := by
    subst hvs
    intro k hk hm
    obtain ⟨v, hv, hb⟩ := mem_blocksOf.1 hm
    have b1 := own_base HBB.out k hk
    have s2 := HB2.out.size
    simp only [List.mem_cons, List.not_mem_nil, or_false] at hv
    rcases hv with rfl | rfl
    · have := own_lt HFO.out k hb; omega
    · have := own_lt HA.out k hb; omega
  obtain ⟨A1, n1, c1, e1, m1, f1⟩ := hall.may 0 (by rw [hvs]; simp)
  obtain ⟨A2, n2, c2, e2, m2, f2⟩ := hall.may 1 (by rw [hvs]; simp)
  have e1' : (A1, n1, c1) = (some ⟨g, 0, none⟩, l.length + 4, cap) := by
    rw [hvs] at e1
    simp at e1
    simp [e1]
  have e2' : (A2, n2, c2) = (Aa, r.1.length, ca) := by
    rw [hvs] at e2
    simp at e2
    simp [e2]
  simp only [Prod.mk.injEq] at e1' e2'
  obtain ⟨rfl, rfl, rfl⟩ := e1'
  obtain ⟨rfl, rfl, rfl⟩ := e2'
  have F1 := Lib.hid f1
  have F2 := Lib.hid f2
  have HALL := Lib.hid hall
  have HGE := Lib.hid hge
  have HBN := Lib.hid hbn
  have HOB := Lib.hid (pw_own_below HBB.out HB7.out)
  have HW7 := Lib.hid hw7
  have HM1 := Lib.hid m1
  have HM2 := Lib.hid m2
  have hm2I : (r.1.length : Int) ≤ 9223372036854775807 := by omega
  have hmI : (l.length : Int) ≤ 4000 := by have := HM.out; omega
  clear hall hge hbn hw7 h17 h27 e1 e2 f1 f2 m1 m2 hvs
  go_wp2_with fail
  go_loopw [44] (fun i wr => ∃ j : Nat, j ≤ l.length + 4 ∧ i = .int .i64 j ∧ Smash 5 (blocksOf vs) w7 wr) (fun i _ => l.length + 4 - (intOf i).toNat)
  case atStart => exact ⟨0, by omega, rfl, HALL.out.smash⟩
  case round =>
    obtain ⟨j, hj, rfl, hS⟩ := hrel
    have HS := Lib.hid hS
    clear hS
    by_cases hjl : j < l.length + 4
    · have hjI : (j : Int) < (l.length : Int) + 4 := by omega
      obtain ⟨gn, hAn, hgn, hln⟩ := F1.out (by omega)
      cases hAn
      obtain ⟨u0, hu1, hu2⟩ := HS.out.cell hgn (Nat.lt_of_lt_of_le hjl hln)
      clear hln
      go_wp2_with fail
      go_roundw
      case rel => exact ⟨j + 1, hjl, by go_num, HS.out.set hgn _ _⟩
      case measure => simp [intOf]; omega
    · have hjI : ¬ (j : Int) < (l.length : Int) + 4 := by omega
      have HS1 := HS.out
      clear HS hjl hj
      go_wp2_with fail
      go_loopw [53] (fun i wr => ∃ j : Nat, j ≤ r.1.length ∧ i = .int .i64 j ∧ Smash 5 (blocksOf vs) w7 wr) (fun i _ => r.1.length - (intOf i).toNat)
      case atStart => exact ⟨0, by omega, rfl, HS1⟩
      case round =>
        obtain ⟨j, hj, rfl, hS⟩ := hrel
        have HS := Lib.hid hS
        clear hS
        by_cases hjl : j < r.1.length
        · have hjI : (j : Int) < (r.1.length : Int) := by omega
          obtain ⟨gn, hAn, hgn, hln⟩ := F2.out (by omega)
          subst hAn
          obtain ⟨u0, hu1, hu2⟩ := HS.out.cell hgn (Nat.lt_of_lt_of_le hjl hln)
          clear hln
          go_wp2_with fail
          go_roundw
          case rel => exact ⟨j + 1, hjl, by go_num, HS.out.set hgn _ _⟩
          case measure => simp [intOf]; omega
        · have hjI : ¬ (j : Int) < (r.1.length : Int) := by omega
          have HS2 := Lib.hid HS.out
          have hbl : Below w.heap.size w wr := HS.out.below HW7.out HGE.out
          have hob := HS.out.own HOB.out HBN.out
          have HBL := Lib.hid hbl
          have HOBW := Lib.hid hob
          clear hbl hob HS HS2
          go_wp2_with fail
          refine (dinflate_any wr A l.length c l 60000 r rfl (HL.out.below HBL.out) HBY.out HC.out (by have := HM.out; omega) (HO.out.below HBL.out) HR.out).mono ?_
          rintro e wz ⟨Az, cz, rfl, hz, hbz⟩
          have HZ := Lib.hid hz.out
          have HBZ := Lib.hid (below_then HBL.out HBL.out.size hbz.out)
          have HOZ := Lib.hid (pw_own_below HOBW.out hbz.out)
          clear hz hbz
          go_wp2_with fail
          refine (same_yes wz Ab cb Az cz r.1.length r.1.length r.1 rfl rfl (own_reads' HOZ.out) (own_reads' HZ.out) (own_cap HOZ.out).1 (own_cap HZ.out).1).mono ?_
          rintro e wy ⟨rfl, n9, rfl⟩
          go_wp2_with fail
          go_ret
          exact ⟨rfl, pw_below_drewN HBZ.out n9⟩
end Go.Proofs.YtkdklcamgcmifaaDoor
