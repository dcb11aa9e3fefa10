/- codicillaw04.DeflateBack: walked. -/
import Derived.Test.YtkdklcamgcmifaaDoorHFixB
import Derived.Test.YtkdklcamgcmifaaDoorHDocL
namespace Go.Proofs.YtkdklcamgcmifaaDoor
set_option linter.unusedVariables false
set_option linter.unusedSimpArgs false
open Go.RowKit Go.Proofs.YtkdklcamgcmifaaDoorW.PrintWords Go.Proofs.YtkdklcamgcmifaaDoorW.PrintMore Go.Proofs.YtkdklcamgcmifaaDoor.PB
theorem r_open {w : World} {base : Nat} {v : Value} {r : List Int} (h : Kd.R (Kd.int .u8) 5 w base (fun _ => True) v r) : ∃ A c, v = .slice A r.length c ∧ r.length ≤ c ∧ ReadsInt w .u8 A r.length r ∧ Bs 5 w base v r := by
  obtain ⟨A, c, e, hc, hr⟩ := own_reads_of_le (enc := Value.int .u8) (d := 0) (Bs.ofR h)
  exact ⟨A, c, e, hc, own_reads' (by rw [← e]; exact Bs.ofR h), Bs.ofR h⟩
theorem twin_any (w : World) (A : Option Addr) (n c : Nat) (l : List Int) (hn : l.length = n) (hr : ReadsInt w .u8 A n l) (hc : n ≤ c) (hl : n ≤ 1000000) :
    Calls Tryd.prog 14 #[.slice A n c] w fun e w' => ∃ A' c', e = .returned (.slice A' n c') ∧ Hid (n ≤ c') ∧ Hid (Bs 5 w' w.heap.size (.slice A' n c') l) ∧ Hid (Below w.heap.size w w') := by
  subst hn
  refine (codicilref01_Twin.calls A c l l w (toC hr) hc (by unfold codicilref01_Twin.f; rw [if_pos (by simp; omega)]; rfl)).mono ?_
  rintro e w1 ⟨v, rfl, hv, hb⟩
  obtain ⟨A', c', rfl, h1, h2, h3⟩ := r_open hv
  exact ⟨A', c', rfl, Lib.hid h1, Lib.hid h3, Lib.hid hb⟩
theorem same_yes (w : World) (A0 : Option Addr) (c0 : Nat) (A1 : Option Addr) (c1 n m : Nat) (l : List Int) (hn : l.length = n) (hm : l.length = m) (hr0 : ReadsInt w .u8 A0 n l) (hr1 : ReadsInt w .u8 A1 m l) (hc0 : n ≤ c0) (hc1 : m ≤ c1) :
    Calls Tryd.prog 15 #[.slice A0 n c0, .slice A1 m c1] w fun e w' => e = .returned (.bool true) ∧ ∃ n, w' = w.drewN n := by
  subst hn
  subst hm
  refine (codicilref01_Same.calls A0 c0 l A1 c1 l true w (toC hr0) hc0 (toC hr1) hc1 (by simp [codicilref01_Same.f])).mono ?_
  rintro e w1 ⟨rfl, hd⟩
  exact ⟨rfl, hd.out⟩
theorem deflate_any (w : World) (A : Option Addr) (n c : Nat) (l : List Int) (way : Int) (hn : l.length = n) (hr : ReadsInt w .u8 A n l) (hb : ∀ x ∈ l, 0 ≤ x ∧ x < 256) (hc : n ≤ c) (hl : n ≤ 60000) (r : List Int × Int) (he : docD l way = r) :
    Calls Tryd.prog 20 #[.slice A n c, .int .i64 way] w fun e w' => ∃ A' c', e = .returned (.tuple #[.slice A' r.1.length c', .int .i64 r.2]) ∧ Hid (Bs 5 w' w.heap.size (.slice A' r.1.length c') r.1) ∧ Hid (Below w.heap.size w w') := by
  subst hn
  refine (deflate_Deflate.calls A c l way r.1 r.2 w (toC hr) hc (by unfold deflate_Deflate.f; rw [if_pos ⟨hl, hb⟩, he])).mono ?_
  rintro e w1 ⟨v, rfl, hv, hb⟩
  obtain ⟨A', c', rfl, h1, h2, h3⟩ := r_open hv
  exact ⟨A', c', rfl, Lib.hid h3, Lib.hid hb⟩
theorem inflate_any (w : World) (A : Option Addr) (n c : Nat) (l : List Int) (m : Int) (r : List Int × Int × Int) (hn : l.length = n) (hr : ReadsInt w .u8 A n l) (hb : ∀ x ∈ l, 0 ≤ x ∧ x < 256) (hc : n ≤ c) (hl : n ≤ 1000000) (ho : Ord w) (he : infF l m = r) :
    Calls Tryd.prog 13 #[.slice A n c, .int .i64 m] w fun ee w' =>
      ∃ A' c', ee = .returned (.tuple #[.slice A' r.1.length c', .int .i64 r.2.1, .int .i64 r.2.2]) ∧ Hid (Bs 5 w' w.heap.size (.slice A' r.1.length c') r.1) ∧ Hid (Below w.heap.size w w') := by
  subst hn
  refine (inflate_calls w A c l m hr hb hc (by omega) ho).mono ?_
  rintro ee w2 ⟨v, rfl, hv, hb2⟩
  rw [he] at hv ⊢
  obtain ⟨A', c', rfl⟩ := own_slice hv.out
  exact ⟨A', c', rfl, hv, hb2⟩
theorem dinflate_any (w : World) (A : Option Addr) (n c : Nat) (l : List Int) (m : Int) (r : List Int × Int × Int) (hn : l.length = n) (hr : ReadsInt w .u8 A n l) (hb : ∀ x ∈ l, 0 ≤ x ∧ x < 256) (hc : n ≤ c) (hl : n ≤ 1000000) (ho : Ord w) (he : infF l m = r) :
    Calls Tryd.prog 16 #[.slice A n c, .int .i64 m] w fun ee w' =>
      ∃ A' c', ee = .returned (.tuple #[.slice A' r.1.length c', .int .i64 r.2.1, .int .i64 r.2.2]) ∧ Hid (Bs 5 w' w.heap.size (.slice A' r.1.length c') r.1) ∧ Hid (Below w.heap.size w w') := by
  subst hn
  refine (dinflate_calls w A c l m hr hb hc (by omega) ho).mono ?_
  rintro ee w2 ⟨v, rfl, hv, hb2⟩
  rw [he] at hv ⊢
  obtain ⟨A', c', rfl⟩ := own_slice hv.out
  exact ⟨A', c', rfl, hv, hb2⟩
theorem reads_at {w : World} {base n c : Nat} {A : Option Addr} {l : List Int} (hn : l.length = n) (h : Bs 5 w base (.slice A n c) l) : ReadsInt w .u8 A n l := by
  subst hn
  exact own_reads' h
theorem lenN_small (n : Nat) (h : n < 11) : lenN n ≤ 9 := by
  have hs := symN_le (lenS n)
  unfold lenN lenE
  rw [if_neg (by omega), if_pos h]
  omega
theorem fixT_bound (l : List Int) : ∀ (m i T N : Nat), l.length - i = m → (fixT l i T N).2 ≤ N + 9 * m := by
  intro m
  induction m using Nat.strongRecOn with
  | _ m ih =>
    intro i T N hm
    by_cases h : i < l.length
    · by_cases hn : (mat l i).1 = 0
      · rw [fixT_lit h hn]
        have h1 := ih (m - 1) (by omega) (i + 1) (T + symV (l.getD i 0).toNat * 2 ^ N) (N + symN (l.getD i 0).toNat) (by omega)
        have h2 := symN_le (l.getD i 0).toNat
        omega
      · rw [fixT_mat h hn]
        have hb := mat_bounds l i
        generalize (mat l i).1 = n at *
        generalize (mat l i).2 = d at *
        have h1 := ih (m - n) (by omega) (i + n) (T + PB.lenV n * 2 ^ N + disV d * 2 ^ (N + lenN n)) (N + lenN n + disN d) (by omega)
        have h2 := lenE_le n (by omega) (by omega)
        have h3 := disE_le d (by omega) (by omega)
        rcases Nat.lt_or_ge n 11 with e | e
        · have h4 := lenN_small n e
          omega
        · omega
    · rw [fixT_end (by omega)]
      show N ≤ _
      omega
theorem fixed_len (l : List Int) : (fixedB l).length ≤ (9 * l.length + 17) / 8 := by
  unfold fixedB
  rw [leB_length]
  have h := fixT_bound l l.length 0 3 3 (by omega)
  have h2 : symN 256 = 7 := by decide
  rw [h2]
  omega
theorem doc_lenS (l : List Int) (a : Int) (h : l.length ≤ 60000) : (docD l a).1.length ≤ 100000 := by
  have h1 := stored_len l
  have h2 := fixed_len l
  unfold docD
  by_cases c1 : a < 0 ∨ 2 < a
  · rw [if_pos c1]; simp
  · rw [if_neg c1]
    by_cases c2 : a = 0
    · rw [if_pos c2]; show (storedB l).length ≤ _; omega
    · rw [if_neg c2]
      by_cases c3 : a = 2 ∧ (storedB l).length ≤ (fixedB l).length
      · rw [if_pos c3]; show (storedB l).length ≤ _; omega
      · rw [if_neg c3]; show (fixedB l).length ≤ _; omega
theorem docD_by {l : List Int} {way : Int} (hb : ∀ x ∈ l, 0 ≤ x ∧ x < 256) (h0 : 0 ≤ way) (h2 : way ≤ 2) (hl : l.length < 65536) : ∀ x ∈ (docD l way).1, 0 ≤ x ∧ x < 256 := by
  have hs : ∀ x ∈ storedB l, 0 ≤ x ∧ x < 256 := by
    rw [stored_strS hl]
    exact strS_by [l] fun x hx => by simp at hx; subst hx; exact ⟨hl, hb⟩
  have hf : ∀ x ∈ fixedB l, 0 ≤ x ∧ x < 256 := by
    intro x hx
    unfold fixedB leB at hx
    obtain ⟨i, _, rfl⟩ := List.mem_map.1 hx
    omega
  unfold docD
  rw [if_neg (by omega)]
  split
  · exact hs
  · split
    · exact hs
    · exact hf
theorem docD_ok (l : List Int) {way : Int} (h0 : 0 ≤ way) (h2 : way ≤ 2) : (docD l way).2 = 0 := by
  unfold docD
  rw [if_neg (by omega)]
  split
  · rfl
  · split <;> rfl
theorem docD_back {l more : List Int} {way : Int} (hb : ∀ x ∈ l, 0 ≤ x ∧ x < 256) (hl : l.length < 65536) (h0 : 0 ≤ way) (h2 : way ≤ 2) : infF ((docD l way).1 ++ more) (l.length : Int) = (l, ((docD l way).1.length : Int), 0) := by
  obtain ⟨e0, q, hq, hn⟩ := strO_docD (l := l) (more := more) (most := l.length) (way := way) hb hl (Nat.le_refl _) h0 h2
  rw [infF_ok (by omega) hq, hn]
set_option maxRecDepth 8000 in
set_option maxHeartbeats 8000000 in
theorem deflateBack_card (w : World) (A0 : Option Addr) (c0 : Nat) (p : List Int) (hr0 : ReadsInt w .u8 A0 p.length p) (hb0 : ∀ x ∈ p, 0 ≤ x ∧ x < 256) (hc0 : p.length ≤ c0)
    (A1 : Option Addr) (c1 : Nat) (more : List Int) (hr1 : ReadsInt w .u8 A1 more.length more) (hb1 : ∀ x ∈ more, 0 ≤ x ∧ x < 256) (hc1 : more.length ≤ c1)
    (way : Int) (hk : -9223372036854775808 ≤ way ∧ way ≤ 9223372036854775807) (ho : Ord w) :
    Calls Tryd.prog 7 #[.slice A0 p.length c0, .slice A1 more.length c1, .int .i64 way] w fun e w' => e = .returned (.bool true) ∧ Below w.heap.size w w' := by
  have HO := Lib.hid ho
  have HR0 := Lib.hid hr0
  have HR1 := Lib.hid hr1
  have HY0 := Lib.hid hb0
  have HY1 := Lib.hid hb1
  have HC0 := Lib.hid hc0
  have HC1 := Lib.hid hc1
  have HAW := Lib.hid (show codicillaw04_awake.f = some true from rfl)
  clear ho hr0 hr1 hb0 hb1 hc0 hc1
  by_cases hl0 : 5000 < p.length
  · have i0 : (5000 : Int) < (p.length : Int) := by omega
    go_enter Tryd.func7, Tryd.ntmps7
    go_wp2_with fail
    refine (codicillaw04_awake.calls true w HAW.out).mono ?_
    rintro e w0 ⟨rfl, hb0⟩
    have HB0 := Lib.hid hb0
    clear hb0
    go_wp2_with fail
    go_ret
    exact ⟨rfl, HB0.out⟩
  have i0 : ¬ (5000 : Int) < (p.length : Int) := by omega
  by_cases hl1 : 100 < more.length
  · have i1 : (100 : Int) < (more.length : Int) := by omega
    go_enter Tryd.func7, Tryd.ntmps7
    go_wp2_with fail
    refine (codicillaw04_awake.calls true w HAW.out).mono ?_
    rintro e w0 ⟨rfl, hb0⟩
    have HB0 := Lib.hid hb0
    clear hb0
    go_wp2_with fail
    go_ret
    exact ⟨rfl, HB0.out⟩
  have i1 : ¬ (100 : Int) < (more.length : Int) := by omega
  by_cases hw0 : way < 0
  · skip
    go_enter Tryd.func7, Tryd.ntmps7
    go_wp2_with fail
    refine (codicillaw04_awake.calls true w HAW.out).mono ?_
    rintro e w0 ⟨rfl, hb0⟩
    have HB0 := Lib.hid hb0
    clear hb0
    go_wp2_with fail
    go_ret
    exact ⟨rfl, HB0.out⟩
  by_cases hw2 : 2 < way
  · skip
    go_enter Tryd.func7, Tryd.ntmps7
    go_wp2_with fail
    refine (codicillaw04_awake.calls true w HAW.out).mono ?_
    rintro e w0 ⟨rfl, hb0⟩
    have HB0 := Lib.hid hb0
    clear hb0
    go_wp2_with fail
    go_ret
    exact ⟨rfl, HB0.out⟩
  have hwl : p.length < 65536 := by omega
  have hw0' : 0 ≤ way := by omega
  have hw2' : way ≤ 2 := by omega
  obtain ⟨a, ha⟩ : ∃ a, (docD p way).1 = a := ⟨_, rfl⟩
  have hdl2 := doc_lenS p way (by omega)
  rw [ha] at hdl2
  have HD : Hid (docD p way = (a, 0)) := Lib.hid (by rw [← ha, ← docD_ok p hw0' hw2'])
  have HU := Lib.hid (docD_back (more := more) HY0.out hwl hw0' hw2')
  have HAB := Lib.hid (docD_by HY0.out hw0' hw2' hwl)
  rw [ha] at HU HAB
  clear ha hw0' hw2' hwl
  go_enter Tryd.func7, Tryd.ntmps7
  go_wp2_with fail
  refine (codicillaw04_awake.calls true w HAW.out).mono ?_
  rintro e w0 ⟨rfl, hb0⟩
  have HB0 := Lib.hid hb0
  clear hb0
  go_wp2_with fail
  refine (twin_any w0 A0 p.length c0 p rfl (HR0.out.below HB0.out) HC0.out (by omega)).mono ?_
  rintro e w1 ⟨At, ct, rfl, HCt, HVt, HBt⟩
  have HB1 := Lib.hid (below_then HB0.out HB0.out.size HBt.out)
  go_wp2_with fail
  refine (deflate_any w1 At p.length ct p way rfl (own_reads' HVt.out) HY0.out HCt.out (by omega) (a, 0) HD.out).mono ?_
  rintro e w2 ⟨Aa, ca, rfl, HVa, HBa⟩
  have HB2 := Lib.hid (below_then HB1.out HB1.out.size HBa.out)
  have HRa : Hid (ReadsInt w2 .u8 Aa a.length a) := Lib.hid (own_reads' HVa.out)
  have HCa : Hid (a.length ≤ ca) := Lib.hid (own_cap HVa.out).1
  clear HVt HBt HB0 HB1 HCt HVa
  go_wp2_with fail
  refine (twin_any w2 Aa a.length ca a rfl HRa.out HCa.out (by omega)).mono ?_
  rintro e w3 ⟨A4, c4, rfl, HC4, HV4, HBt⟩
  have HB3 := Lib.hid (below_then HB2.out HB2.out.size HBt.out)
  go_wp2_with (at_builtin; refine brow_append_row' (w0 := w2) w2.heap.size rfl (.tmp 43) (.tmp 44) 22 5 rfl Tryd.underlying22 infoU8 (.slice A4 a.length c4) a more A1 more.length c1 rfl rfl HV4.out (HR1.out.below HB3.out) HBt.out HBt.out.size (by omega) ?_; intro v5 w5 hown5 hb5; obtain ⟨A5, c5, rfl⟩ := own_slice hown5; have HV5 := Lib.hid hown5; have HB5 := Lib.hid (below_then HB2.out HB2.out.size hb5); have HBp := Lib.hid hb5; clear hown5 hb5)
  have HL5 := Lib.hid (show (a ++ more).length = a.length + more.length by rw [List.length_append])
  have HR5 : Hid (ReadsInt w5 .u8 A5 (a.length + more.length) (a ++ more)) := Lib.hid (by have h := own_reads' HV5.out; rwa [HL5.out] at h)
  have HC5 : Hid (a.length + more.length ≤ c5) := Lib.hid (by have h := (own_cap HV5.out).1; rwa [HL5.out] at h)
  have HYY : Hid (∀ x ∈ a ++ more, 0 ≤ x ∧ x < 256) := Lib.hid (fun x hx => (List.mem_append.1 hx).elim (HAB.out x) (HY1.out x))
  clear HBt HB3 HC4 HV4 HBp HRa HCa
  refine (twin_any w5 A5 (a.length + more.length) c5 (a ++ more) HL5.out HR5.out HC5.out (by omega)).mono ?_
  rintro e w6 ⟨A6, c6, rfl, HC6, HV6, HBt⟩
  have HB6 := Lib.hid (below_then HB5.out HB5.out.size HBt.out)
  have HR6 : Hid (ReadsInt w6 .u8 A5 (a.length + more.length) (a ++ more)) := Lib.hid (HR5.out.below HBt.out)
  have HR6' : Hid (ReadsInt w6 .u8 A6 (a.length + more.length) (a ++ more)) := Lib.hid (reads_at HL5.out HV6.out)
  clear HBt HR5 HV5 HV6
  go_wp2_with fail
  refine (inflate_any w6 A6 (a.length + more.length) c6 (a ++ more) (p.length : Int) _ HL5.out HR6'.out HYY.out HC6.out (by omega) (HO.out.below HB6.out) HU.out).mono ?_
  rintro e w7 ⟨A7, c7, rfl, HV7, HBi⟩
  have HB7 := Lib.hid (below_then HB6.out HB6.out.size HBi.out)
  have HR7 : Hid (ReadsInt w7 .u8 A5 (a.length + more.length) (a ++ more)) := Lib.hid (HR6.out.below HBi.out)
  have HX7 : Hid (ReadsInt w7 .u8 A7 p.length p) := Lib.hid (own_reads' HV7.out)
  have HC7 : Hid (p.length ≤ c7) := Lib.hid (own_cap HV7.out).1
  clear HBi HR6 HR6' HV7 HC6 HB6
  go_wp2_with fail
  refine (dinflate_any w7 A5 (a.length + more.length) c5 (a ++ more) (p.length : Int) _ HL5.out HR7.out HYY.out HC5.out (by omega) (HO.out.below HB7.out) HU.out).mono ?_
  rintro e w8 ⟨A8, c8, rfl, HV8, HBi⟩
  have HB8 := Lib.hid (below_then HB7.out HB7.out.size HBi.out)
  have HX8 : Hid (ReadsInt w8 .u8 A7 p.length p) := Lib.hid (HX7.out.below HBi.out)
  have HZ8 : Hid (ReadsInt w8 .u8 A8 p.length p) := Lib.hid (own_reads' HV8.out)
  have HC8 : Hid (p.length ≤ c8) := Lib.hid (own_cap HV8.out).1
  clear HBi HR7 HX7 HV8 HB7 HC5
  go_wp2_with fail
  refine (same_yes w8 A7 c7 A0 c0 p.length p.length p rfl rfl HX8.out (HR0.out.below HB8.out) HC7.out HC0.out).mono ?_
  rintro e w9 ⟨rfl, n9, rfl⟩
  have HB9 := Lib.hid (pw_below_drewN HB8.out n9)
  have HZ9 : Hid (ReadsInt (w8.drewN n9) .u8 A8 p.length p) := Lib.hid (HZ8.out.below (pw_below_drewN (Below.refl w8.heap.size w8) n9))
  clear HX8 HZ8 HB8 HC7
  generalize w8.drewN n9 = w9 at *
  go_wp2_with fail
  refine (same_yes w9 A8 c8 A0 c0 p.length p.length p rfl rfl HZ9.out (HR0.out.below HB9.out) HC8.out HC0.out).mono ?_
  rintro e w10 ⟨rfl, n10, rfl⟩
  go_wp2_with fail
  go_ret
  exact ⟨rfl, pw_below_drewN HB9.out n10⟩
end Go.Proofs.YtkdklcamgcmifaaDoor
