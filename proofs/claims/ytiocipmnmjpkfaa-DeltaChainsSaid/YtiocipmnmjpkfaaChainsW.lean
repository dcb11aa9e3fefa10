/- DeltaChains, walked. -/
import Derived.Test.YtiocipmnmjpkfaaPDMx1
import Derived.Test.YtiocipmnmjpkfaaHMakeP
import Derived.Deep.RegionHeld3
namespace Go.Proofs.Ytiocipmnmjpkfaa
set_option linter.unusedVariables false
set_option linter.unusedSimpArgs false
open Go.RowKit Go.Proofs.YtiocipmnmjpkfaaW.PrintWords Go.Proofs.YtiocipmnmjpkfaaW.PrintMore Go.Proofs.Ytiocipmnmjpkfaa.PDM

/-- A list of rows of bytes. -/
structure Rws (w : World) (a : Option Addr) (n c : Nat) (A : Nat → Option Addr) (L C : Nat → Nat) (X : Nat → List Int) : Prop where
  cap : n ≤ c
  some_ : 0 < n → ∃ ad, a = some ad
  cell : ∀ ad, a = some ad → ∀ j, j < n → w.cell? (ad.add j) = some (.slice (A j) (L j) (C j))
  reads : ∀ j, j < n → ReadsInt w .u8 (A j) (L j) (X j)
  len : ∀ j, j < n → L j = (X j).length
  lc : ∀ j, j < n → L j ≤ C j
  small : ∀ j, j < n → L j ≤ 140737488351232
  bytes : ∀ j, j < n → ∀ x ∈ X j, 0 ≤ x ∧ x < 256
theorem twin_walk (A : Option Addr) (c : Nat) (l : List Int) (w : World) (hl : ReadsInt w .u8 A l.length l) (hc : l.length ≤ c) (hm : l.length ≤ 140737488351232) :
    Calls Try.prog 17 #[.slice A l.length c] w fun e w' => ∃ A' c', e = .returned (.slice A' l.length c') ∧ Hid (Bs 5 w' w.heap.size (.slice A' l.length c') l) ∧ Hid (Below w.heap.size w w') := by
  have hf : codicilref01_Twin.f l = some l := by
    unfold codicilref01_Twin.f
    rw [if_pos (by simp; omega)]
    rfl
  refine (codicilref01_Twin.calls A c l l w (toC hl) hc hf).mono ?_
  rintro e w' ⟨v, rfl, hr, hb⟩
  have ho := Bs.ofR hr
  obtain ⟨A', n, c', rfl, _, hn⟩ := Bs.open_ ho
  have hn' := hn.out
  subst hn'
  exact ⟨A', c', rfl, Lib.hid ho, Lib.hid hb⟩
set_option maxRecDepth 20000 in
theorem make_walk (Ab At : Option Addr) (cb ct : Nat) (base target : List Int) (w : World) (hmb : base.length ≤ 1048576) (hmt : target.length ≤ 1048576) (hcb : base.length ≤ cb) (hct : target.length ≤ ct) (hrb : ReadsInt w .u8 Ab base.length base) (hrt : ReadsInt w .u8 At target.length target)
    (hbb : ∀ x ∈ base, 0 ≤ x ∧ x < 256) (hbt : ∀ x ∈ target, 0 ≤ x ∧ x < 256) :
    Calls Try.prog 41 #[.slice Ab base.length cb, .slice At target.length ct] w fun e w' => ∃ A' c', e = .returned (.tuple #[.slice A' (makeF base target).length c', .int .i64 0]) ∧ Hid (Bs 5 w' w.heap.size (.slice A' (makeF base target).length c') (makeF base target)) ∧ Hid (Below w.heap.size w w') := by
  refine (make_calls Ab At cb ct base target w hmb hmt hcb hct hrb hrt hbb hbt).mono ?_
  rintro e w' ⟨v, rfl, ho, hb⟩
  obtain ⟨A', n, c', rfl, _, hn⟩ := Bs.open_ ho
  have hn' := hn.out
  subst hn'
  exact ⟨A', c', rfl, Lib.hid ho, Lib.hid hb⟩
theorem same_walk (w : World) (A0 : Option Addr) (c0 : Nat) (A1 : Option Addr) (c1 : Nat) (l : List Int) (hr0 : ReadsInt w .u8 A0 l.length l) (hr1 : ReadsInt w .u8 A1 l.length l) (hc0 : l.length ≤ c0) (hc1 : l.length ≤ c1) :
    Calls Try.prog 21 #[.slice A0 l.length c0, .slice A1 l.length c1] w fun e w' => e = .returned (.bool true) ∧ ∃ n, w' = w.drewN n := by
  refine (codicilref01_Same.calls A0 c0 l A1 c1 l true w (toC hr0) hc0 (toC hr1) hc1 (by simp [codicilref01_Same.f])).mono ?_
  rintro e w1 ⟨rfl, hd⟩
  exact ⟨rfl, hd.out⟩
set_option maxRecDepth 8000 in
set_option maxHeartbeats 8000000 in
theorem deltaChains_calls (a : Option Addr) (n c : Nat) (A : Nat → Option Addr) (L C : Nat → Nat) (X : Nat → List Int) (w : World) (h : Rws w a n c A L C X) :
    Calls Try.prog 12 #[.slice a n c] w fun e w' => e = .returned (.bool true) ∧ Below w.heap.size w w' := by
  have HR := Lib.hid h
  clear h
  by_cases h0 : n < 1
  · have i0 : (n : Int) < 1 := by omega
    go_enter Try.func12, Try.ntmps12
    go_wp2_with fail
    refine (dawake_calls w).mono ?_
    rintro e w0 ⟨rfl, hb0⟩
    have HB0 := Lib.hid hb0
    clear hb0
    go_wp2_with fail
    go_ret
    exact ⟨rfl, HB0.out⟩
  by_cases h12 : 12 < n
  · have i0 : ¬ (n : Int) < 1 := by omega
    have i1 : (n : Int) > 12 := by omega
    go_enter Try.func12, Try.ntmps12
    go_wp2_with fail
    refine (dawake_calls w).mono ?_
    rintro e w0 ⟨rfl, hb0⟩
    have HB0 := Lib.hid hb0
    clear hb0
    go_wp2_with fail
    go_ret
    exact ⟨rfl, HB0.out⟩
  have i0 : ¬ (n : Int) < 1 := by omega
  have i1 : ¬ (n : Int) > 12 := by omega
  have i2 : (0 : Int) < (n : Int) := by omega
  obtain ⟨ad, rfl⟩ := HR.out.some_ (by omega)
  have HCELL := Lib.hid (HR.out.cell ad rfl)
  have HN := Lib.hid (show 1 ≤ n ∧ n ≤ 12 from ⟨by omega, by omega⟩)
  clear h0 h12
  go_enter Try.func12, Try.ntmps12
  go_wp2_with fail
  refine (dawake_calls w).mono ?_
  rintro e w0 ⟨rfl, hb0⟩
  have HB0 := Lib.hid hb0
  have c0 := pw_cell_below HB0.out (HCELL.out 0 (by have := HN.out; omega))
  have c0' : w0.cell? ad = some (.slice (A 0) (L 0) (C 0)) := by rw [show ad.add 0 = ad from by simp [Addr.add]] at c0; exact c0
  clear hb0
  have htw := twin_walk (A 0) (C 0) (X 0) w0 (by rw [← HR.out.len 0 (by have := HN.out; omega)]; exact (HR.out.reads 0 (by have := HN.out; omega)).below HB0.out) (by rw [← HR.out.len 0 (by have := HN.out; omega)]; exact HR.out.lc 0 (by have := HN.out; omega)) (by rw [← HR.out.len 0 (by have := HN.out; omega)]; exact HR.out.small 0 (by have := HN.out; omega))
  rw [← HR.out.len 0 (by have := HN.out; omega)] at htw
  have HTW := Lib.hid htw
  clear htw
  go_wp2_with fail
  refine HTW.out.mono ?_
  rintro e w1 ⟨At, ct, rfl, hot, hb1⟩
  have HOT : Hid (Bs 5 w1 w.heap.size (.slice At (L 0) ct) (X 0)) := Lib.hid (own_weaken hot.out HB0.out.size)
  have HB1 : Hid (Below w.heap.size w w1) := Lib.hid (below_then HB0.out HB0.out.size hb1.out)
  clear hot hb1 HTW c0 c0' HB0
  go_wp2_with fail
  go_loopw [3, 4] (fun av iv wr => ∃ (p : Nat) (Ap : Option Addr) (cp : Nat), iv = .int .i64 ((p : Int) + 1) ∧ av = .slice Ap (L p) cp ∧ Hid (p < n) ∧ Hid (Bs 5 wr w.heap.size (.slice Ap (L p) cp) (X p)) ∧ Hid (Below w.heap.size w wr)) (fun _ iv _ => n - (intOf iv).toNat)
  case atStart => exact ⟨0, At, ct, rfl, rfl, Lib.hid (by have := HN.out; omega), HOT, HB1⟩
  case round =>
    clear HOT HB1
    obtain ⟨p, Ap, cp, rfl, rfl, HP, HO, HB⟩ := hrel
    have hp12 : (p : Int) ≤ 12 := by have := HP.out; have := HN.out; omega
    by_cases hlt : p + 1 < n
    · have j1 : (p : Int) + 1 < (n : Int) := by omega
      have j0 : (0 : Int) ≤ (p : Int) := by omega
      have j2 : (p : Int) < (n : Int) := by omega
      have j3 : (0 : Int) ≤ (p : Int) + 1 := by omega
      have cp1 := pw_cell_below HB.out (HCELL.out p (by omega))
      have cq1 := pw_cell_below HB.out (HCELL.out (p + 1) hlt)
      have cq2 : wr.cell? ⟨ad.block, ad.off + (p + 1), none⟩ = some (.slice (A (p + 1)) (L (p + 1)) (C (p + 1))) := by
        have := cq1
        simpa [Addr.add] using this
      have HRp := Lib.hid ((HR.out.reads p (by omega)).below HB.out)
      have HRq := Lib.hid ((HR.out.reads (p + 1) hlt).below HB.out)
      have HLp := Lib.hid (HR.out.len p (by omega))
      have HLq := Lib.hid (HR.out.len (p + 1) hlt)
      have HCp := Lib.hid (HR.out.lc p (by omega))
      have HCq := Lib.hid (HR.out.lc (p + 1) hlt)
      have HBp := Lib.hid (HR.out.bytes p (by omega))
      have HBq := Lib.hid (HR.out.bytes (p + 1) hlt)
      generalize hAp : A p = Rp at *
      generalize hAq : A (p + 1) = Rq at *
      generalize hLp : L p = lp at *
      generalize hLq : L (p + 1) = lq at *
      generalize hCp : C p = Cp at *
      generalize hCq : C (p + 1) = Cq at *
      generalize hXp : X p = xp at *
      generalize hXq : X (p + 1) = xq at *
      have e1 := HLp.out
      have e2 := HLq.out
      subst e1
      subst e2
      have HEQ := Lib.hid (show L (p + 1) = xq.length ∧ X (p + 1) = xq from ⟨hLq, hXq⟩)
      have HPN := Lib.hid (show p + 1 < n from hlt)
      clear hAp hAq hLp hLq hCp hCq hXp hXq hlt
      by_cases hbq : 3000 < xq.length
      · have iq : (xq.length : Int) > 3000 := by omega
        go_wp2_with fail
        go_ret
        exact ⟨rfl, HB.out⟩
      by_cases hbp : 3000 < xp.length
      · have iq : ¬ (xq.length : Int) > 3000 := by omega
        have ip : (xp.length : Int) > 3000 := by omega
        go_wp2_with fail
        go_ret
        exact ⟨rfl, HB.out⟩
      have iq : ¬ (xq.length : Int) > 3000 := by omega
      have ip : ¬ (xp.length : Int) > 3000 := by omega
      have HS := Lib.hid (show xp.length ≤ 3000 ∧ xq.length ≤ 3000 from ⟨by omega, by omega⟩)
      have wq1 : IntKind.i64.wrap ((p : Int) + 1 - 1) = (p : Int) := by rw [IntKind.wrap_i64]; omega
      have wq2 : IntKind.i64.wrap (p : Int) = (p : Int) := by rw [IntKind.wrap_i64]; omega
      clear hbq hbp
      go_wp2_with fail
      have HCELLS := Lib.hid (show wr.drew.cell? (ad.add p) = some (.slice Rp xp.length Cp) ∧ wr.drew.cell? ⟨ad.block, ad.off + (p + 1), none⟩ = some (.slice Rq xq.length Cq) from ⟨cp1, cq2⟩)
      go_region_held3 (fun W => W.cell? (ad.add p) = some (.slice Rp xp.length Cp) ∧ W.cell? ⟨ad.block, ad.off + (p + 1), none⟩ = some (.slice Rq xq.length Cq)) (first | exact ⟨by assumption, by assumption⟩ | exact HCELLS.out | go_keep)
        (first
          | (go_at_call_of 17 Rp; refine (twin_walk Rp Cp xp wr.drew HRp.out HCp.out (by have := HS.out; omega)).mono ?_; rintro e w3 ⟨B3, b3, rfl, HO3, HB3⟩; have d1 := pw_cell_below HB3.out HCELLS.out.1; have d2 := pw_cell_below HB3.out HCELLS.out.2)
          | (go_at_call_of 17 Rq; refine (twin_walk Rq Cq xq w3 ((show ReadsInt wr.drew .u8 Rq xq.length xq from HRq.out).below HB3.out) HCq.out (by have := HS.out; omega)).mono ?_; rintro e w4 ⟨B4, b4, rfl, HO4, HB4⟩; have d3 := pw_cell_below HB4.out d1; have d4 := pw_cell_below HB4.out d2)
          | (go_at_call_of 41 B4; refine (make_walk B3 B4 b3 b4 xp xq w4 (by have := HS.out; omega) (by have := HS.out; omega) (own_cap HO3.out).1 (own_cap HO4.out).1 ((own_reads' HO3.out).below HB4.out) (own_reads' HO4.out) HBp.out HBq.out).mono ?_; rintro e w5 ⟨B5, b5, rfl, HO5, HB5⟩; have d5 := pw_cell_below HB5.out d3; have d6 := pw_cell_below HB5.out d4))
      clear cp1 cq1 cq2 d1 d2 d3 d4 d5
      have hd0 := below_drew HB.out
      have hp3 := hd0.size
      have HW3 := Lib.hid (below_then hd0 hd0.size HB3.out)
      have HW4 := Lib.hid (below_then HW3.out HW3.out.size HB4.out)
      have HW5 := Lib.hid (below_then HW4.out HW4.out.size HB5.out)
      have hb34 := below_then HB3.out HB3.out.size HB4.out
      have hb35 := below_then hb34 hb34.size HB5.out
      have HOP : Hid (Bs 5 w5 w.heap.size (.slice Ap xp.length cp) xp) := Lib.hid (pw_own_below (show Bs 5 wr.drew w.heap.size (.slice Ap xp.length cp) xp from own_move HO.out fun _ _ => rfl) hb35)
      have HMB := Lib.hid (make_bytes xp xq HBq.out)
      have HML : Hid ((makeF xp xq).length ≤ 20000) := Lib.hid (by have := make_len xp xq; have := HS.out; omega)
      have hap := dapply_calls Ap B5 cp b5 xp (makeF xp xq) xq.length w5 (own_reads' HOP.out) (own_cap HOP.out).1 (own_reads' HO5.out) (own_cap HO5.out).1 (by have := HS.out; omega) (by have := HML.out; omega) HMB.out
      rw [apply_make xp xq (by have := HS.out; omega) (by have := HS.out; omega)] at hap
      have HAP := Lib.hid hap
      have HRq5 : Hid (ReadsInt w5 .u8 Rq xq.length xq) := Lib.hid ((show ReadsInt wr.drew .u8 Rq xq.length xq from HRq.out).below hb35)
      clear hd0 hp3 hb34 hb35 hap
      generalize makeF xp xq = D at *
      go_wp2_with fail
      refine HAP.out.mono ?_
      rintro e w6 ⟨v6, rfl, ho6, hb6⟩
      obtain ⟨A6, n6, c6, rfl, _, hn6⟩ := Bs.open_ ho6
      have hn6' := hn6.out
      simp only at hn6'
      subst hn6'
      have HO6 : Hid (Bs 5 w6 w.heap.size (.slice A6 xq.length c6) xq) := Lib.hid (own_weaken ho6 HW5.out.size)
      have HW6 := Lib.hid (below_then HW5.out HW5.out.size hb6)
      have e6 := pw_cell_below hb6 d6
      have HRq6 : Hid (ReadsInt w6 .u8 Rq xq.length xq) := Lib.hid (HRq5.out.below hb6)
      have hsame := same_walk w6 A6 c6 Rq Cq xq (own_reads' HO6.out) HRq6.out (own_cap HO6.out).1 HCq.out
      have HSM := Lib.hid hsame
      clear ho6 hb6 d6 hsame
      go_wp2_with fail
      refine HSM.out.mono ?_
      rintro e w7 ⟨rfl, n7, rfl⟩
      go_wp2_with fail
      have hq := HEQ.out
      go_roundw
      case rel =>
        refine ⟨p + 1, A6, c6, by simp, by rw [hq.1], HPN, Lib.hid ?_, Lib.hid (pw_below_drewN HW6.out n7)⟩
        rw [hq.1, hq.2]
        exact (show Bs 5 (w6.drewN n7) w.heap.size (.slice A6 xq.length c6) xq from own_move HO6.out fun _ _ => rfl)
      case measure =>
        have := HPN.out
        simp [intOf]
        omega
    · have j1 : ¬ (p : Int) + 1 < (n : Int) := by omega
      go_wp2_with fail
      go_ret
      exact ⟨rfl, HB.out⟩
end Go.Proofs.Ytiocipmnmjpkfaa
