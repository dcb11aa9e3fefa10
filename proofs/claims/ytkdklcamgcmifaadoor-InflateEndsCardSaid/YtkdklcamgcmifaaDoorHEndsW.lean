/- codicillaw03.InflateEnds: walked. -/
import Derived.Test.YtkdklcamgcmifaaDoorHAwake3
import Derived.Deep.RegionLaw
import Derived.Deep.RegionHeld3
namespace Go.Proofs.YtkdklcamgcmifaaDoor
set_option linter.unusedVariables false
set_option linter.unusedSimpArgs false
open Go.RowKit Go.Proofs.YtkdklcamgcmifaaDoorW.PrintWords Go.Proofs.YtkdklcamgcmifaaDoorW.PrintMore Go.Proofs.YtkdklcamgcmifaaDoor.PI
/-- The pure side. -/
theorem ends_on {p more o : List Int} {q n : Nat} (h : strO p 100000 = .ok (o, q)) (hn : n = (q + 7) / 8) : 1 ≤ n ∧ n ≤ p.length ∧ o.length ≤ 100000 ∧ infF p 100000 = (o, (n : Int), 0) ∧ infF (p.take n ++ more) (o.length : Int) = (o, (n : Int), 0) := by
  have h1 := strO_ok h
  have h2 := strO_top h
  refine ⟨by omega, by omega, h2, by rw [show (100000 : Int) = ((100000 : Nat) : Int) from rfl, infF_ok (by omega) h, hn], ?_⟩
  have h3 := h
  rw [← List.take_append_drop n p] at h3
  have h4 := strO_on (c := more) (m' := o.length) h3 (by rw [List.length_take]; omega) (Nat.le_refl _)
  rw [infF_ok (by omega) h4, hn]
theorem ends_short {p o : List Int} {q n k : Nat} (h : strO p 100000 = .ok (o, q)) (hn : n = (q + 7) / 8) (hk : k < n) : infF (p.take k) 100000 = ([], 0, 5) := by
  have h1 := strO_ok h
  rw [← List.take_append_drop k p] at h
  have h4 := strO_short h (by rw [List.length_take]; omega)
  rw [show (100000 : Int) = ((100000 : Nat) : Int) from rfl, infF_err (by omega) h4]
theorem ends_room {p o : List Int} {q n m : Nat} (h : strO p 100000 = .ok (o, q)) (hn : n = (q + 7) / 8) (hm : m < o.length) : infF (p.take n) (m : Int) = ([], 0, 10) := by
  have h1 := strO_ok h
  have h2 := strO_top h
  rw [← List.take_append_drop n p] at h
  have h4 := strO_room h (by rw [List.length_take]; omega) hm
  rw [infF_err (by omega) h4]
theorem reads_at {w : World} {base n c : Nat} {A : Option Addr} {l : List Int} (hn : l.length = n) (h : Bs 5 w base (.slice A n c) l) : ReadsInt w .u8 A n l := by
  subst hn
  exact own_reads' h
theorem take_mem {l : List Int} {n : Nat} {P : Int → Prop} (h : ∀ x ∈ l, P x) : ∀ x ∈ l.take n, P x := fun x hx => h x (List.mem_of_mem_take hx)
set_option maxRecDepth 8000 in
set_option maxHeartbeats 8000000 in
theorem inflateEnds_calls (w : World) (A0 : Option Addr) (c0 : Nat) (p : List Int) (A1 : Option Addr) (c1 : Nat) (more : List Int) (k : Int) (hr0 : ReadsInt w .u8 A0 p.length p) (hr1 : ReadsInt w .u8 A1 more.length more)
    (hb0 : ∀ x ∈ p, 0 ≤ x ∧ x < 256) (hb1 : ∀ x ∈ more, 0 ≤ x ∧ x < 256) (hc0 : p.length ≤ c0) (hc1 : more.length ≤ c1) (ho : Ord w) (hk : -9223372036854775808 ≤ k ∧ k ≤ 9223372036854775807) :
    Calls Tryd.prog 3 #[.slice A0 p.length c0, .slice A1 more.length c1, .int .i64 k] w fun e w' => e = .returned (.bool true) ∧ Below w.heap.size w w' := by
  have HO := Lib.hid ho
  have HR0 := Lib.hid hr0
  have HR1 := Lib.hid hr1
  have HY0 := Lib.hid hb0
  have HY1 := Lib.hid hb1
  have HC0 := Lib.hid hc0
  have HC1 := Lib.hid hc1
  clear ho hr0 hr1 hb0 hb1 hc0 hc1
  by_cases hl0 : 4000 < p.length
  · have il0 : (4000 : Int) < (p.length : Int) := by omega
    clear hl0
    go_enter Tryd.func3, Tryd.ntmps3
    go_wp2_with fail
    refine (awake3_calls w HO.out).mono ?_
    rintro e w1 ⟨rfl, hb1⟩
    have HB1 := Lib.hid hb1
    clear hb1
    go_wp2_with fail
    go_ret
    exact ⟨rfl, HB1.out⟩
  by_cases hl1 : 1000 < more.length
  · have il0 : ¬ (4000 : Int) < (p.length : Int) := by omega
    have il1 : (1000 : Int) < (more.length : Int) := by omega
    clear hl0 hl1
    go_enter Tryd.func3, Tryd.ntmps3
    go_wp2_with fail
    refine (awake3_calls w HO.out).mono ?_
    rintro e w1 ⟨rfl, hb1⟩
    have HB1 := Lib.hid hb1
    clear hb1
    go_wp2_with fail
    go_ret
    exact ⟨rfl, HB1.out⟩
  have il0 : ¬ (4000 : Int) < (p.length : Int) := by omega
  have il1 : ¬ (1000 : Int) < (more.length : Int) := by omega
  have HL := Lib.hid (And.intro hl0 hl1)
  clear hl0 hl1
  cases hs : strO p 100000 with
  | error e0 =>
    have HE : Hid (infF p 100000 = ([], 0, e0)) := Lib.hid (by rw [show (100000 : Int) = ((100000 : Nat) : Int) from rfl, infF_err (by omega) hs])
    have hne : (e0 != 0) = true := by simpa using strO_nz hs
    clear hs
    go_enter Tryd.func3, Tryd.ntmps3
    go_wp2_with fail
    refine (awake3_calls w HO.out).mono ?_
    rintro e w1 ⟨rfl, hb1⟩
    have HB1 := Lib.hid hb1
    clear hb1
    go_wp2_with fail
    refine (twin_any w1 A0 p.length c0 p rfl (HR0.out.below HB1.out) HC0.out (by have := HL.out.1; omega)).mono ?_
    rintro e w2 ⟨A2, c2, rfl, HC2, HV2, HBt⟩
    have HB2 := Lib.hid (below_then HB1.out HB1.out.size HBt.out)
    go_wp2_with fail
    refine (inflate_any w2 A2 p.length c2 p 100000 _ rfl (own_reads' HV2.out) HY0.out HC2.out (by have := HL.out.1; omega) (HO.out.below HB2.out) HE.out).mono ?_
    rintro e w3 ⟨A3, c3, rfl, HV3, HBi⟩
    have HB3 := Lib.hid (below_then HB2.out HB2.out.size HBi.out)
    go_wp2_with fail
    go_ret
    exact ⟨rfl, HB3.out⟩
  | ok oq =>
    obtain ⟨o, q⟩ := oq
    obtain ⟨n, hn⟩ : ∃ n, n = (q + 7) / 8 := ⟨_, rfl⟩
    obtain ⟨h1, h2, h3, h4, h5⟩ := ends_on (more := more) hs hn
    have HS := Lib.hid (And.intro hs hn)
    have HE := Lib.hid h4
    have HE2 := Lib.hid h5
    clear hs hn h4 h5
    go_enter Tryd.func3, Tryd.ntmps3
    go_wp2_with fail
    refine (awake3_calls w HO.out).mono ?_
    rintro e w1 ⟨rfl, hb1⟩
    have HB1 := Lib.hid hb1
    clear hb1
    go_wp2_with fail
    refine (twin_any w1 A0 p.length c0 p rfl (HR0.out.below HB1.out) HC0.out (by have := HL.out.1; omega)).mono ?_
    rintro e w2 ⟨A2, c2, rfl, HC2, HV2, HBt⟩
    have HB2 := Lib.hid (below_then HB1.out HB1.out.size HBt.out)
    go_wp2_with fail
    refine (inflate_any w2 A2 p.length c2 p 100000 _ rfl (own_reads' HV2.out) HY0.out HC2.out (by have := HL.out.1; omega) (HO.out.below HB2.out) HE.out).mono ?_
    rintro e w3 ⟨A3, c3, rfl, HV3, HBi⟩
    have HB3 := Lib.hid (below_then HB2.out HB2.out.size HBi.out)
    have hcn : (n : Int) ≤ (c0 : Int) := by have := HC0.out; omega
    clear HBt HBi HB1 HV2 HC2
    go_wp2_with fail
    have hcn2 : n ≤ c0 := by omega
    have hlt : (p.take n).length = n := by rw [List.length_take]; omega
    have HLT := Lib.hid hlt
    clear hlt
    refine (twin_any w3 A0 n c0 (p.take n) HLT.out ((HR0.out.below HB3.out).take_ n h2) hcn2 (by omega)).mono ?_
    rintro e w4 ⟨A4, c4, rfl, HC4, HV4, HBt⟩
    have HV4' : Hid (Bs 5 w4 w3.heap.size (.slice A4 n c4) (p.take n)) := HV4
    have HB4 := Lib.hid (below_then HB3.out HB3.out.size HBt.out)
    clear HC4
    go_wp2_with (at_builtin; refine brow_append_row' (w0 := w3) w3.heap.size rfl (.tmp 56) (.tmp 57) 22 5 rfl Tryd.underlying22 infoU8 (.slice A4 n c4) (p.take n) more A1 more.length c1 rfl rfl HV4.out (HR1.out.below HB4.out) HBt.out HBt.out.size (by rw [HLT.out]; omega) ?_; intro v5 w5 hown5 hb5; obtain ⟨A5, c5, rfl⟩ := own_slice hown5; have HV5 := Lib.hid hown5; have HB5 := Lib.hid (below_then HB3.out HB3.out.size hb5); have HBp := Lib.hid hb5; clear hown5 hb5)
    have HL5 := Lib.hid (show (p.take n ++ more).length = n + more.length by rw [List.length_append, HLT.out])
    have HR5 : Hid (ReadsInt w5 .u8 A5 (n + more.length) (p.take n ++ more)) := Lib.hid (by have h := own_reads' HV5.out; rwa [HL5.out] at h)
    have HC5 : Hid (n + more.length ≤ c5) := Lib.hid (by have h := (own_cap HV5.out).1; rwa [HL5.out] at h)
    refine (inflate_any w5 A5 (n + more.length) c5 (p.take n ++ more) (o.length : Int) _ HL5.out HR5.out (fun x hx => (List.mem_append.1 hx).elim (fun h => HY0.out x (List.mem_of_mem_take h)) (HY1.out x)) HC5.out (by have := HL.out; omega) (HO.out.below HB5.out) HE2.out).mono ?_
    rintro e w6 ⟨A6, c6, rfl, HV6, HBi⟩
    have HB6 := Lib.hid (below_then HB5.out HB5.out.size HBi.out)
    have HR3 : Hid (ReadsInt w6 .u8 A3 o.length o) := Lib.hid ((own_reads' HV3.out).below (below_then HBp.out HBp.out.size HBi.out))
    have HR6 : Hid (ReadsInt w6 .u8 A6 o.length o) := Lib.hid (own_reads' HV6.out)
    have HC3 := Lib.hid (own_cap HV3.out).1
    have HC6 : Hid (o.length ≤ c6) := Lib.hid (own_cap HV6.out).1
    clear HV4 HBt HV4' HB4 HV5 HB5 HBp HL5 HR5 HC5 HV6 HBi HV3 HB3 HE2
    go_wp2_with fail
    refine (same_yes w6 A3 c3 A6 c6 o.length o.length o rfl rfl HR3.out HR6.out HC3.out HC6.out).mono ?_
    rintro e w7 ⟨rfl, n7, rfl⟩
    have HB7 := Lib.hid (pw_below_drewN HB6.out n7)
    clear HR3 HR6 HC3 HC6 HB6
    generalize w6.drewN n7 = w7 at *
    by_cases hk0 : 0 ≤ k
    · by_cases hkn : k < (n : Int)
      · have hkc : k ≤ (c0 : Int) := by omega
        have hkc2 : k.toNat ≤ c0 := by omega
        go_wp2_with fail
        refine (twin_any w7 A0 k.toNat c0 (p.take k.toNat) (by rw [List.length_take]; omega) ((HR0.out.below HB7.out).take_ k.toNat (by omega)) hkc2 (by omega)).mono ?_
        rintro e w8 ⟨A8, c8, rfl, HC8, HV8, HBt⟩
        have HB8 := Lib.hid (below_then HB7.out HB7.out.size HBt.out)
        go_wp2_with fail
        refine (inflate_any w8 A8 k.toNat c8 (p.take k.toNat) 100000 _ (by rw [List.length_take]; omega) (reads_at (by rw [List.length_take]; omega) HV8.out) (take_mem HY0.out) HC8.out (by omega) (HO.out.below HB8.out) (ends_short HS.out.1 HS.out.2 (by omega))).mono ?_
        rintro e w9 ⟨A9, c9, rfl, HV9, HBi⟩
        have HB9 := Lib.hid (below_then HB8.out HB8.out.size HBi.out)
        clear HBt HBi HV9 HV8 HC8 HB8 HB7 hkc hkc2
        rcases Nat.eq_zero_or_pos o.length with hz | hz
        · have iz : ¬ (0 : Int) < (o.length : Int) := by omega
          clear hz
          go_wp2_with fail
          go_ret
          exact ⟨rfl, HB9.out⟩
        · have iz : (0 : Int) < (o.length : Int) := by omega
          have HZ := Lib.hid hz
          have hz1 : ¬ (o.length : Int) = 0 := by omega
          have HRM : Hid (infF (p.take n) (k.tmod (o.length : Int)) = ([], 0, 10)) := Lib.hid (by
            have e : k.tmod (o.length : Int) = ((k.toNat % o.length : Nat) : Int) := by
              rw [Int.tmod_eq_emod_of_nonneg hk0, Int.natCast_emod, Int.toNat_of_nonneg hk0]
            rw [e]
            exact ends_room HS.out.1 HS.out.2 (Nat.mod_lt _ hz))
          have hz2 : ¬ o = [] := fun h => by rw [h] at hz; exact absurd hz (by simp)
          have hz3 : ¬ o.length = 0 := by omega
          clear hz
          go_wp2_with fail
          go_region_with (first | (go_at_call 14; refine (twin_any _ A0 n c0 (p.take n) HLT.out ((HR0.out.below (by first | exact below_drew HB9.out | exact HB9.out)).take_ n h2) hcn2 (by omega)).mono ?_; rintro e w10 ⟨A10, c10, rfl, HC10, HV10, HBt⟩; have HB10 := Lib.hid (below_then (below_drew HB9.out) (below_drew HB9.out).size HBt.out)) | (go_at_call 13; refine (inflate_any _ A10 n c10 (p.take n) (k.tmod (o.length : Int)) _ HLT.out (reads_at HLT.out HV10.out) (take_mem HY0.out) HC10.out (by omega) (HO.out.below HB10.out) HRM.out).mono ?_; rintro e w11 ⟨A11, c11, rfl, HV11, HBi⟩; have HB11 := Lib.hid (below_then HB10.out HB10.out.size HBi.out)))
          all_goals
            go_wp2_with fail
            go_ret
            exact ⟨rfl, HB11.out⟩
      · have hkn' : (n : Int) ≤ k := by omega
        rcases Nat.eq_zero_or_pos o.length with hz | hz
        · have iz : ¬ (0 : Int) < (o.length : Int) := by omega
          clear hz
          go_wp2_with fail
          go_ret
          exact ⟨rfl, HB7.out⟩
        · have iz : (0 : Int) < (o.length : Int) := by omega
          have HZ := Lib.hid hz
          have hz1 : ¬ (o.length : Int) = 0 := by omega
          have HRM : Hid (infF (p.take n) (k.tmod (o.length : Int)) = ([], 0, 10)) := Lib.hid (by
            have e : k.tmod (o.length : Int) = ((k.toNat % o.length : Nat) : Int) := by
              rw [Int.tmod_eq_emod_of_nonneg hk0, Int.natCast_emod, Int.toNat_of_nonneg hk0]
            rw [e]
            exact ends_room HS.out.1 HS.out.2 (Nat.mod_lt _ hz))
          have hz2 : ¬ o = [] := fun h => by rw [h] at hz; exact absurd hz (by simp)
          have hz3 : ¬ o.length = 0 := by omega
          clear hz
          go_wp2_with fail
          go_region_with (first | (go_at_call 14; refine (twin_any _ A0 n c0 (p.take n) HLT.out ((HR0.out.below (by first | exact below_drew HB7.out | exact HB7.out)).take_ n h2) hcn2 (by omega)).mono ?_; rintro e w10 ⟨A10, c10, rfl, HC10, HV10, HBt⟩; have HB10 := Lib.hid (below_then (below_drew HB7.out) (below_drew HB7.out).size HBt.out)) | (go_at_call 13; refine (inflate_any _ A10 n c10 (p.take n) (k.tmod (o.length : Int)) _ HLT.out (reads_at HLT.out HV10.out) (take_mem HY0.out) HC10.out (by omega) (HO.out.below HB10.out) HRM.out).mono ?_; rintro e w11 ⟨A11, c11, rfl, HV11, HBi⟩; have HB11 := Lib.hid (below_then HB10.out HB10.out.size HBi.out)))
          all_goals
            go_wp2_with fail
            go_ret
            exact ⟨rfl, HB11.out⟩
    · have hk0' : k < 0 := by omega
      go_wp2_with fail
      all_goals
        go_ret
        exact ⟨rfl, HB7.out⟩
/-- As the card's text wants it. -/
theorem inflateEnds_card (w : World) (A0 : Option Addr) (c0 : Nat) (p : List Int) (hr0 : ReadsInt w .u8 A0 p.length p) (hb0 : ∀ x ∈ p, 0 ≤ x ∧ x < 256) (hc0 : p.length ≤ c0)
    (A1 : Option Addr) (c1 : Nat) (more : List Int) (hr1 : ReadsInt w .u8 A1 more.length more) (hb1 : ∀ x ∈ more, 0 ≤ x ∧ x < 256) (hc1 : more.length ≤ c1) (k : Int) (hk : -9223372036854775808 ≤ k ∧ k ≤ 9223372036854775807) (ho : Ord w) :
    Calls Tryd.prog 3 #[.slice A0 p.length c0, .slice A1 more.length c1, .int .i64 k] w fun e w' => e = .returned (.bool true) ∧ Below w.heap.size w w' :=
  inflateEnds_calls w A0 c0 p A1 c1 more k hr0 hr1 hb0 hb1 hc0 hc1 ho hk
end Go.Proofs.YtkdklcamgcmifaaDoor
