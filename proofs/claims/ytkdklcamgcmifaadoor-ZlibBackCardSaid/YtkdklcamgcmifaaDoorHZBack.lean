/- What is wrapped is unwrapped again, in plain Lean. -/
import Derived.Test.YtkdklcamgcmifaaDoorHZB
namespace Go.Proofs.YtkdklcamgcmifaaDoor
set_option linter.unusedVariables false
set_option linter.unusedSimpArgs false
open Go.RowKit Go.Proofs.YtkdklcamgcmifaaDoorW.PrintWords Go.Proofs.YtkdklcamgcmifaaDoorW.PrintMore Go.Proofs.YtkdklcamgcmifaaDoor.PY
def sum4 (l : List Int) : List Int := [(A32 l / 16777216) % 256, (A32 l / 65536) % 256, (A32 l / 256) % 256, A32 l % 256]
theorem wrapL_eq (l : List Int) (way : Int) : wrapL l way = 120 :: 1 :: ((docD l way).1 ++ sum4 l) := by simp [wrapL, sum4]
theorem fixU_ge (l : List Int) : ∀ m i, l.length - i ≤ m → 7 ≤ (fixU l i).2 := by
  intro m
  induction m with
  | zero => intro i h; rw [fixU_end (by omega)]; exact Nat.le_refl _
  | succ m ih =>
    intro i h
    by_cases hi : i < l.length
    · by_cases hn : (mat l i).1 = 0
      · rw [fixU_lit hi hn]
        have := ih (i + 1) (by omega)
        simp only []
        omega
      · rw [fixU_mat hi hn]
        have := ih (i + (mat l i).1) (by omega)
        simp only []
        omega
    · rw [fixU_end (by omega)]
      exact Nat.le_refl _
theorem docD_len2 (l : List Int) (way : Int) (h0 : 0 ≤ way) (h2 : way ≤ 2) : 2 ≤ (docD l way).1.length := by
  have h1 : 2 ≤ (storedB l).length := by rw [stored_len]; omega
  have h3 : 2 ≤ (fixedB l).length := by
    unfold fixedB
    rw [leB_length]
    have hU := (fixT_U l l.length 0 3 3 (by omega)).2
    have hg := fixU_ge l l.length 0 (by omega)
    rw [symN_end]
    omega
  unfold docD
  rw [if_neg (by omega)]
  split
  · exact h1
  · split
    · exact h1
    · exact h3
theorem unwF_of {l d s more : List Int} {way : Int} (hd : d = (docD l way).1) (hb : ∀ x ∈ l, 0 ≤ x ∧ x < 256) (hl : l.length < 65536) (h0 : 0 ≤ way) (h2 : way ≤ 2) (hs : s.length = 4) :
    unwF (120 :: 1 :: (d ++ s) ++ more) (l.length : Int) = if A32 l ≠ be4 (s ++ more) then ([], 0, 6) else (l, (d.length : Int) + 6, 0) := by
  obtain ⟨e0, q, hq, hn⟩ := strO_docD (l := l) (more := s ++ more) (most := l.length) (way := way) hb hl (Nat.le_refl _) h0 h2
  rw [← hd] at hq hn
  have hdrop : (120 :: 1 :: (d ++ s) ++ more).drop 2 = d ++ (s ++ more) := by simp
  have hinf : infF ((120 :: 1 :: (d ++ s) ++ more).drop 2) (l.length : Int) = (l, (d.length : Int), 0) := by
    rw [hdrop, infF_ok (by omega) hq, hn]
  unfold unwF
  rw [if_neg (by omega), if_neg (by simp), if_neg (by
    show ¬ headV 120 1 = false
    decide +kernel), hinf]
  simp only [ne_eq, not_true_eq_false, if_false, Int.toNat_natCast]
  have hd2 : (120 :: 1 :: (d ++ s) ++ more).drop (2 + d.length) = s ++ more := by
    rw [← List.drop_drop, hdrop, List.drop_left]
  rw [hd2, if_neg (by rw [List.length_append]; omega)]
theorem be4_sum (l more : List Int) : be4 (sum4 l ++ more) = A32 l := by
  have h := A32_range l
  simp only [be4, sum4, List.cons_append, List.getD_cons_zero, List.getD_cons_succ]
  omega
theorem unwF_wrap {l more : List Int} {way : Int} (hb : ∀ x ∈ l, 0 ≤ x ∧ x < 256) (hl : l.length < 65536) (h0 : 0 ≤ way) (h2 : way ≤ 2) : unwF (wrapL l way ++ more) (l.length : Int) = (l, ((wrapL l way).length : Int), 0) := by
  rw [wrapL_eq, unwF_of rfl hb hl h0 h2 rfl, if_neg (by rw [be4_sum]; simp)]
  simp only [List.length_cons, List.length_append, Prod.mk.injEq, true_and, and_true]
  show ((docD l way).1.length : Int) + 6 = (((docD l way).1.length + 4 + 1 + 1 : Nat) : Int)
  omega
theorem unwF_turned {l : List Int} {way : Int} {t : Nat} {v : Int} (hb : ∀ x ∈ l, 0 ≤ x ∧ x < 256) (hl : l.length < 65536) (h0 : 0 ≤ way) (h2 : way ≤ 2) (ht : t < 4) (hv : v ≠ (wrapL l way).getD ((wrapL l way).length - 1 - t) 0) :
    unwF ((wrapL l way).set ((wrapL l way).length - 1 - t) v) (l.length : Int) = ([], 0, 6) := by
  have hlen : (wrapL l way).length = (docD l way).1.length + 6 := by rw [wrapL_eq]; simp [sum4]
  have hidx : (wrapL l way).length - 1 - t = (docD l way).1.length + (3 - t) + 2 := by omega
  have hset : (wrapL l way).set ((wrapL l way).length - 1 - t) v = 120 :: 1 :: ((docD l way).1 ++ (sum4 l).set (3 - t) v) := by
    rw [hidx, wrapL_eq]
    simp [List.set_append]
  have hget : (wrapL l way).getD ((wrapL l way).length - 1 - t) 0 = (sum4 l).getD (3 - t) 0 := by
    rw [hidx, wrapL_eq]
    simp only [List.getD_eq_getElem?_getD, List.getElem?_cons_succ]
    rw [List.getElem?_append_right (by omega), show (docD l way).1.length + (3 - t) - (docD l way).1.length = 3 - t by omega]
  rw [hset]
  have h := unwF_of (d := (docD l way).1) (s := (sum4 l).set (3 - t) v) (more := []) (way := way) rfl hb hl h0 h2 (by simp [sum4])
  rw [List.append_nil, List.append_nil] at h
  rw [h, if_pos]
  rw [hget] at hv
  have hs := be4_sum l []
  rw [List.append_nil] at hs
  rw [← hs]
  intro he
  apply hv
  clear hv
  rcases (show t = 0 ∨ t = 1 ∨ t = 2 ∨ t = 3 by omega) with rfl | rfl | rfl | rfl
  all_goals
    simp only [be4, sum4, List.set_cons_zero, List.set_cons_succ, List.getD_cons_zero, List.getD_cons_succ, Nat.sub_zero] at he ⊢
    try simp only [Nat.reduceSub, List.set_cons_zero, List.set_cons_succ, List.getD_cons_zero, List.getD_cons_succ] at he ⊢
    omega
theorem reads_at {w : World} {base n c : Nat} {A : Option Addr} {l : List Int} (hn : l.length = n) (h : Bs 5 w base (.slice A n c) l) : ReadsInt w .u8 A n l := by
  subst hn
  exact own_reads' h
theorem xor_ne (v y : Int) (h0 : 0 ≤ v ∧ v < 256) (h1 : 0 ≤ y ∧ y < 256) (h : y ≠ 0) : bits .xor .u8 v y ≠ v ∧ 0 ≤ bits .xor .u8 v y ∧ bits .xor .u8 v y < 256 := by
  rw [u8_xor v y h0.1 h0.2 h1.1 h1.2]
  have hlt : v.toNat ^^^ y.toNat < 2 ^ 8 := Nat.xor_lt_two_pow (by omega) (by omega)
  refine ⟨fun e => ?_, by omega, by omega⟩
  have e2 : v.toNat ^^^ y.toNat = v.toNat := by omega
  have e3 : v.toNat ^^^ (v.toNat ^^^ y.toNat) = v.toNat ^^^ v.toNat := by rw [e2]
  rw [← Nat.xor_assoc, Nat.xor_self, Nat.zero_xor] at e3
  omega
theorem doc_lenS (l : List Int) (a : Int) (h : l.length ≤ 60000) : (docD l a).1.length ≤ 100000 := by
  have h1 := stored_len l
  have h2 := fixed_len l
  unfold docD
  by_cases c1 : a < 0 ∨ 2 < a
  · rw [if_pos c1]; simp
  · rw [if_neg c1]
    by_cases c2 : a = 0
    · rw [if_pos c2]; show (storedB l).length ≤ _; omega
    · rw [if_neg c2]
      by_cases c3 : a = 2 ∧ (storedB l).length ≤ (fixedB l).length
      · rw [if_pos c3]; show (storedB l).length ≤ _; omega
      · rw [if_neg c3]; show (fixedB l).length ≤ _; omega
theorem nums_set (l : List Int) (j : Nat) (v : Int) : (nums .u8 l).set j (.int .u8 v) = nums .u8 (l.set j v) := by simp [nums, List.map_set]
theorem own_put {w : World} {base g n c : Nat} {l : List Int} (hn : l.length = n) (h : Bs 5 w base (.slice (some ⟨g, 0, none⟩) n c) l) (j : Nat) (v : Int) : Bs 5 (w.setCell ⟨g, j, none⟩ (.int .u8 v)) base (.slice (some ⟨g, 0, none⟩) n c) (l.set j v) := by
  subst hn
  have h2 := (h.stored j (.int .u8 v)).1
  rw [nums_set] at h2
  unfold Bs
  rw [List.length_set]
  exact h2
theorem wrapL_by {l : List Int} {way : Int} (hb : ∀ x ∈ l, 0 ≤ x ∧ x < 256) (h0 : 0 ≤ way) (h2 : way ≤ 2) (hl : l.length < 65536) : ∀ x ∈ wrapL l way, 0 ≤ x ∧ x < 256 := by
  have hA := A32_range l
  have hs : ∀ x ∈ storedB l, 0 ≤ x ∧ x < 256 := by
    rw [stored_strS hl]
    exact strS_by [l] fun x hx => by simp at hx; subst hx; exact ⟨hl, hb⟩
  have hf : ∀ x ∈ fixedB l, 0 ≤ x ∧ x < 256 := by
    intro x hx
    unfold fixedB leB at hx
    obtain ⟨i, _, rfl⟩ := List.mem_map.1 hx
    omega
  have hd : ∀ x ∈ (docD l way).1, 0 ≤ x ∧ x < 256 := by
    unfold docD
    rw [if_neg (by omega)]
    split
    · exact hs
    · split
      · exact hs
      · exact hf
  intro x hx
  rw [wrapL_eq] at hx
  simp only [List.mem_cons, List.mem_append, sum4, List.not_mem_nil, or_false] at hx
  rcases hx with rfl | rfl | h | rfl | rfl | rfl | rfl
  · decide
  · decide
  · exact hd x h
  all_goals omega
set_option maxRecDepth 8000 in
set_option maxHeartbeats 8000000 in
theorem zlibBack_card (w : World) (A0 : Option Addr) (c0 : Nat) (p : List Int) (hr0 : ReadsInt w .u8 A0 p.length p) (hb0 : ∀ x ∈ p, 0 ≤ x ∧ x < 256) (hc0 : p.length ≤ c0)
    (A1 : Option Addr) (c1 : Nat) (more : List Int) (hr1 : ReadsInt w .u8 A1 more.length more) (hb1 : ∀ x ∈ more, 0 ≤ x ∧ x < 256) (hc1 : more.length ≤ c1)
    (way : Int) (hk : -9223372036854775808 ≤ way ∧ way ≤ 9223372036854775807) (turn : Int) (hk2 : -9223372036854775808 ≤ turn ∧ turn ≤ 9223372036854775807) (y : Int) (hy : 0 ≤ y ∧ y < 256) (ho : Ord w) :
    Calls Tryd.prog 9 #[.slice A0 p.length c0, .slice A1 more.length c1, .int .i64 way, .int .i64 turn, .int .u8 y] w fun e w' => e = .returned (.bool true) ∧ Below w.heap.size w w' := by
  have HO := Lib.hid ho
  have HR0 := Lib.hid hr0
  have HR1 := Lib.hid hr1
  have HY0 := Lib.hid hb0
  have HY1 := Lib.hid hb1
  have HC0 := Lib.hid hc0
  have HC1 := Lib.hid hc1
  have HAW := Lib.hid (show codicillaw05_awake.f = some true from rfl)
  clear ho hr0 hr1 hb0 hb1 hc0 hc1
  by_cases hl0 : 3000 < p.length
  · have i0 : (3000 : Int) < (p.length : Int) := by omega
    go_enter Tryd.func9, Tryd.ntmps9
    go_wp2_with fail
    refine (codicillaw05_awake.calls true w HAW.out).mono ?_
    rintro e w0 ⟨rfl, hb0⟩
    have HB0 := Lib.hid hb0
    clear hb0
    go_wp2_with fail
    go_ret
    exact ⟨rfl, HB0.out⟩
  have i0 : ¬ (3000 : Int) < (p.length : Int) := by omega
  by_cases hl1 : 100 < more.length
  · have i1 : (100 : Int) < (more.length : Int) := by omega
    go_enter Tryd.func9, Tryd.ntmps9
    go_wp2_with fail
    refine (codicillaw05_awake.calls true w HAW.out).mono ?_
    rintro e w0 ⟨rfl, hb0⟩
    have HB0 := Lib.hid hb0
    clear hb0
    go_wp2_with fail
    go_ret
    exact ⟨rfl, HB0.out⟩
  have i1 : ¬ (100 : Int) < (more.length : Int) := by omega
  by_cases hw0 : way < 0
  · skip
    go_enter Tryd.func9, Tryd.ntmps9
    go_wp2_with fail
    refine (codicillaw05_awake.calls true w HAW.out).mono ?_
    rintro e w0 ⟨rfl, hb0⟩
    have HB0 := Lib.hid hb0
    clear hb0
    go_wp2_with fail
    go_ret
    exact ⟨rfl, HB0.out⟩
  by_cases hw2 : 2 < way
  · skip
    go_enter Tryd.func9, Tryd.ntmps9
    go_wp2_with fail
    refine (codicillaw05_awake.calls true w HAW.out).mono ?_
    rintro e w0 ⟨rfl, hb0⟩
    have HB0 := Lib.hid hb0
    clear hb0
    go_wp2_with fail
    go_ret
    exact ⟨rfl, HB0.out⟩
  have hwl : p.length < 65536 := by omega
  have hw0' : 0 ≤ way := by omega
  have hw2' : way ≤ 2 := by omega
  obtain ⟨a, ha⟩ : ∃ a, wrapL p way = a := ⟨_, rfl⟩
  have hlen : a.length = (docD p way).1.length + 6 := by rw [← ha, wrapL_eq]; simp [sum4]
  have hdl := docD_len2 p way hw0' hw2'
  have hdl2 := doc_lenS p way (by omega)
  have ha8 : 8 ≤ a.length := by omega
  have haL : a.length ≤ 100006 := by omega
  have ia8 : ¬ (a.length : Int) < 8 := by omega
  have HU := Lib.hid (unwF_wrap (more := more) HY0.out hwl hw0' hw2')
  have HAB := Lib.hid (wrapL_by HY0.out hw0' hw2' hwl)
  rw [ha] at HU HAB
  have HA := Lib.hid ha
  have HW := Lib.hid (And.intro hw0' (And.intro hw2' hwl))
  clear hlen hdl hdl2 ha hw0' hw2' hwl
  go_enter Tryd.func9, Tryd.ntmps9
  go_wp2_with fail
  refine (codicillaw05_awake.calls true w HAW.out).mono ?_
  rintro e w0 ⟨rfl, hb0⟩
  have HB0 := Lib.hid hb0
  clear hb0
  go_wp2_with fail
  refine (twin_any w0 A0 p.length c0 p rfl (HR0.out.below HB0.out) HC0.out (by omega)).mono ?_
  rintro e w1 ⟨At, ct, rfl, HCt, HVt, HBt⟩
  have HB1 := Lib.hid (below_then HB0.out HB0.out.size HBt.out)
  go_wp2_with fail
  refine (wrap_any w1 At p.length ct p way rfl (own_reads' HVt.out) HY0.out HCt.out (by omega) (a, 0) (by rw [if_neg (by omega), HA.out])).mono ?_
  rintro e w2 ⟨Aa, ca, rfl, HVa, HBa⟩
  obtain ⟨g, cap', hv', hbg, hlt'⟩ := World.ownsRow.form HVa.out (by show 0 < a.length; omega)
  simp only [Value.slice.injEq] at hv'
  obtain ⟨rfl, -, rfl⟩ := hv'
  have HG : Hid (w.heap.size ≤ g) := Lib.hid (Nat.le_trans HB1.out.size hbg)
  have HB2 := Lib.hid (below_then HB1.out HB1.out.size HBa.out)
  have HRa : Hid (ReadsInt w2 .u8 (some ⟨g, 0, none⟩) a.length a) := Lib.hid (own_reads' HVa.out)
  have HCa : Hid (a.length ≤ ca) := Lib.hid (own_cap HVa.out).1
  have HVa' : Hid (Bs 5 w2 w1.heap.size (.slice (some ⟨g, 0, none⟩) a.length ca) a) := HVa
  clear HVt HBt HB0 HB1 HCt HVa
  go_wp2_with fail
  refine (twin_any w2 (some ⟨g, 0, none⟩) a.length ca a rfl HRa.out HCa.out (by omega)).mono ?_
  rintro e w3 ⟨A4, c4, rfl, HC4, HV4, HBt⟩
  have HB3 := Lib.hid (below_then HB2.out HB2.out.size HBt.out)
  go_wp2_with (at_builtin; refine brow_append_row' (w0 := w2) w2.heap.size rfl (.tmp 49) (.tmp 50) 22 5 rfl Tryd.underlying22 infoU8 (.slice A4 a.length c4) a more A1 more.length c1 rfl rfl HV4.out (HR1.out.below HB3.out) HBt.out HBt.out.size (by omega) ?_; intro v5 w5 hown5 hb5; obtain ⟨A5, c5, rfl⟩ := own_slice hown5; have HV5 := Lib.hid hown5; have HB5 := Lib.hid (below_then HB2.out HB2.out.size hb5); have HBp := Lib.hid hb5; clear hown5 hb5)
  have HL5 := Lib.hid (show (a ++ more).length = a.length + more.length by rw [List.length_append])
  have HR5 : Hid (ReadsInt w5 .u8 A5 (a.length + more.length) (a ++ more)) := Lib.hid (by have h := own_reads' HV5.out; rwa [HL5.out] at h)
  have HC5 : Hid (a.length + more.length ≤ c5) := Lib.hid (by have h := (own_cap HV5.out).1; rwa [HL5.out] at h)
  refine (unwrap_any w5 A5 (a.length + more.length) c5 (a ++ more) (p.length : Int) _ HL5.out HR5.out (fun x hx => (List.mem_append.1 hx).elim (HAB.out x) (HY1.out x)) HC5.out (by omega) (HO.out.below HB5.out) HU.out).mono ?_
  rintro e w6 ⟨A6, c6, rfl, HV6, HBi⟩
  have HB6 := Lib.hid (below_then HB5.out HB5.out.size HBi.out)
  have HR6 : Hid (ReadsInt w6 .u8 A6 p.length p) := Lib.hid (own_reads' HV6.out)
  have HC6 : Hid (p.length ≤ c6) := Lib.hid (own_cap HV6.out).1
  have HVb := Lib.hid (pw_own_below HVa'.out (below_then HBp.out HBp.out.size HBi.out))
  clear HV4 HBt HB3 HC4 HV5 HB5 HBp HL5 HR5 HC5 HV6 HBi HRa HU HVa' HB2
  go_wp2_with fail
  refine (same_yes w6 A6 c6 A0 c0 p.length p.length p rfl rfl HR6.out (HR0.out.below HB6.out) HC6.out HC0.out).mono ?_
  rintro e w7 ⟨rfl, n7, rfl⟩
  have HB7 := Lib.hid (pw_below_drewN HB6.out n7)
  have HV7 : Hid (Bs 5 (w6.drewN n7) w1.heap.size (.slice (some ⟨g, 0, none⟩) a.length ca) a) := Lib.hid (own_move HVb.out fun _ _ => rfl)
  clear HR6 HC6 HB6 HVb
  generalize w6.drewN n7 = w7 at *
  by_cases hy0 : y = 0
  · subst hy0
    go_wp2_with fail
    go_ret
    exact ⟨rfl, HB7.out⟩
  have iy0 : (y == 0) = false := by simpa using hy0
  by_cases ht : turn < 0
  · go_wp2_with fail
    go_ret
    exact ⟨rfl, HB7.out⟩
  have ht' : 0 ≤ turn := by omega
  obtain ⟨m, hm⟩ : ∃ m : Nat, m = turn.toNat % 4 := ⟨_, rfl⟩
  have hm4 : m < 4 := by omega
  obtain ⟨j, hj⟩ : ∃ j : Nat, j = a.length - 1 - m := ⟨_, rfl⟩
  have hjl : j < a.length := by omega
  have hjI : (a.length : Int) - 1 - turn % 4 = (j : Int) := by omega
  have hv := byte_of HAB.out j
  obtain ⟨v, hvv⟩ : ∃ v, v = a.getD j 0 := ⟨_, rfl⟩
  rw [← hvv] at hv
  have hx := xor_ne v y hv hy hy0
  have hcj : w7.cell? ⟨g, j, none⟩ = some (.int .u8 v) := by
    rw [World.ownsRow.cellAt HV7.out j (by omega), hvv, List.getD_eq_getElem?_getD]
    simp [nums, List.getElem?_eq_getElem hjl]
  have hfj : w7.frozen? ⟨g, j, none⟩ = false := World.ownsRow.frozenAt HV7.out j
  have HT : Hid (unwF (a.set j (bits .xor .u8 v y)) (p.length : Int) = ([], 0, 6)) := Lib.hid (by
    have h := unwF_turned (l := p) (way := way) (t := m) (v := bits .xor .u8 v y) HY0.out HW.out.2.2 HW.out.1 HW.out.2.1 hm4 (by rw [HA.out, ← hj, ← hvv]; exact hx.1)
    rw [HA.out, ← hj] at h
    exact h)
  have HSB : Hid (∀ x ∈ a.set j (bits .xor .u8 v y), 0 ≤ x ∧ x < 256) := Lib.hid (fun x hx' => (List.mem_or_eq_of_mem_set hx').elim (HAB.out x) fun e => by rw [e]; exact hx.2)
  have HJ := Lib.hid (And.intro hj (And.intro hm hvv))
  have HV8 := Lib.hid (own_put rfl HV7.out j (bits .xor .u8 v y))
  have HB8 := Lib.hid (HB7.out.setCell (p := ⟨g, j, none⟩) HG.out (.int .u8 (bits .xor .u8 v y)))
  have hj0 : (0 : Int) ≤ (j : Int) := by omega
  have hj1 : (j : Int) < (a.length : Int) := by omega
  clear hj hm hvv hv hx hm4
  go_wp2_with fail
  refine (unwrap_any _ (some ⟨g, 0, none⟩) a.length ca (a.set j (bits .xor .u8 v y)) (p.length : Int) ([], 0, 6) (by simp) (reads_at (by simp) HV8.out) HSB.out HCa.out (by omega) (HO.out.below HB8.out) HT.out).mono ?_
  rintro e w9 ⟨A9, c9, rfl, HV9, HB9⟩
  have HB10 := Lib.hid (below_then HB8.out HB8.out.size HB9.out)
  go_wp2_with fail
  go_ret
  exact ⟨rfl, HB10.out⟩
end Go.Proofs.YtkdklcamgcmifaaDoor
