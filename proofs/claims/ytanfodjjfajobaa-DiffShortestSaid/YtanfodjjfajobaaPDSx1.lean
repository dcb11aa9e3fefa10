-- Written by fprint.py, a program of this session, over the translation. Not trusted: Lean checks it.
import Derived.Test.YtanfodjjfajobaaPDSx0
namespace Go.Proofs.Ytanfodjjfajobaa.PDS
open Go.RowKit Go.Proofs.YtanfodjjfajobaaW.PrintWords Go.Proofs.YtanfodjjfajobaaW.PrintLast Go.Proofs.YtanfodjjfajobaaW.PrintMore
attribute [local go_sem] max2_int min2_int max_two min_two max_three min_three max_four min_four   -- for this text's walks alone
set_option linter.unusedVariables false
set_option linter.unusedSimpArgs false

-- NOT PRINTED: function 28 (diff_plane_at)

-- NOT PRINTED: function 41 (diff_numbers)

-- NOT PRINTED: function 42 (diff_plane_least)

-- NOT PRINTED: function 26 (diff_lay)

-- NOT PRINTED: function 43 (diff_plane_end)

-- NOT PRINTED: function 32 (diff_parts)

-- NOT PRINTED: function 44 (diff_plane_step)

-- NOT PRINTED: function 27 (diff_plane_way)

-- NOT PRINTED: function 9 (diff_Way)

/-! ### diff_Rest: function 10 -/
def diff_Rest.f (l0 : List ByteArray) (l1 : List ByteArray) : Option (Int × Int) := if l0.length ≤ 1000 ∧ l1.length ≤ 1000 ∧ (∀ s ∈ l0, s.size ≤ maxLen) ∧ (∀ s ∈ l1, s.size ≤ maxLen) then some ((dist (txs l0) (txs l1) : Int), 0) else none
set_option maxRecDepth 8000 in
set_option maxHeartbeats 2000000 in
theorem rest_calls (w : World) (A : Option Addr) (ca : Nat) (a : List ByteArray) (B : Option Addr) (cb : Nat) (b : List ByteArray) (hla : ReadsOf Value.string ByteArray.empty w A a.length a) (hlb : ReadsOf Value.string ByteArray.empty w B b.length b)
    (hna : a.length ≤ 1000) (hnb : b.length ≤ 1000) (hsa : ∀ s ∈ a, s.size ≤ maxLen) (hsb : ∀ s ∈ b, s.size ≤ maxLen) :
    Calls Try.prog 10 #[.slice A a.length ca, .slice B b.length cb] w fun e w' => e = .returned (.tuple #[.int .i64 (dist (txs a) (txs b) : Int), .int .i64 0]) ∧ Below w.heap.size w w' := by
  have HL := Lib.hid (lay_calls w A ca a B cb b hla hlb hna hnb hsa hsb)
  obtain ⟨d, hd0⟩ : ∃ d, d = dist (txs a) (txs b) := ⟨_, rfl⟩
  rw [← hd0]
  have HD0 := Lib.hid hd0
  clear hla hlb hsa hsb hd0
  go_enter Try.func10, Try.ntmps10
  go_wp2_with fail
  refine HL.out.mono ?_
  rintro e w1 ⟨g, R, Aa, c1, Ab, c2, al, bl, T, rfl, hpl, hnums, hok, hbel⟩
  have hla := hnums.la
  have hlb := hnums.lb
  have HPL := Lib.hid hpl
  have HB := Lib.hid hbel
  have h0 := hok 0 0 (by omega) (by omega) (.inr ⟨rfl, Nat.le_refl _⟩)
  have hql : 0 < T.length := by rw [hpl.len]; exact Nat.mul_pos (by omega) (by omega)
  have kc := (hpl.cell 0 hql).1
  rw [Nat.zero_mul, Nat.zero_add] at h0
  rw [h0] at kc
  have hd := dd_le a b 0 0
  have hdd : dd a b 0 0 = d := by rw [HD0.out]; rfl
  rw [hdd] at kc hd
  clear hpl hnums hok hbel h0 hdd HL
  go_wp2_with fail
  refine (at_calls w.heap.size g R Aa c1 Ab c2 al bl T w1 HPL.out (by omega) (by omega) 0 0 (by omega) (by omega) _ _ rfl rfl).mono ?_
  rintro e w2 ⟨rfl, n2, rfl⟩
  rw [Nat.zero_mul, Nat.zero_add]
  go_wp2_with fail
  go_ret2
  exact ⟨rfl, pw_below_drewN HB.out n2⟩
theorem diff_Rest.calls (A0 : Option Addr) (c0 : Nat) (l0 : List ByteArray) (A1 : Option Addr) (c1 : Nat) (l1 : List ByteArray) (r1 : Int) (r2 : Int) (w : World) (hr0 : Kd.C Kd.string w A0 l0.length l0) (hc0 : l0.length ≤ c0) (hr1 : Kd.C Kd.string w A1 l1.length l1) (hc1 : l1.length ≤ c1) (h : diff_Rest.f l0 l1 = some (r1, r2)) :
    Calls Try.prog 10 #[.slice A0 l0.length c0, .slice A1 l1.length c1] w fun e w' => e = .returned (.tuple #[.int .i64 r1, .int .i64 r2]) ∧ Below w.heap.size w w' := by
  unfold diff_Rest.f at h
  split at h
  · rename_i hb
    have e := Option.some.inj h
    have h1 : r1 = (dist (txs l0) (txs l1) : Int) := by cases e; rfl
    have h2 : r2 = 0 := by cases e; rfl
    rw [h1, h2]
    exact rest_calls w A0 c0 l0 A1 c1 l1 (Kd.reads_of_C (enc := Value.string) (d := ByteArray.empty) hr0) (Kd.reads_of_C (enc := Value.string) (d := ByteArray.empty) hr1) hb.1 hb.2.1 hb.2.2.1 hb.2.2.2
  · cases h


-- NOT PRINTED: function 14 (codicilref19_SameWay)

/-! ### codicillaw19_awake: function 8 -/
def codicillaw19_awake.f : Option (Bool) := some true
theorem aw19_lits (w : World) (u v : ByteArray) : ReadsOf Value.string ByteArray.empty (w.alloc (.cells #[.string u, .string v] 9)) (some ⟨w.heap.size, 0, none⟩) 2 [u, v] :=
  own_reads_of' (own_lit_of (enc := Value.string) w w.heap.size 9 [u, v] (Nat.le_refl _) (by simp))
theorem aw19_pts (w : World) : ReadsOf pt (0, 0) (w.alloc (.cells #[.complex .f64 0 0, .complex .f64 4607182418800017408 0, .complex .f64 4611686018427387904 4607182418800017408, .complex .f64 4611686018427387904 4611686018427387904] 30)) (some ⟨w.heap.size, 0, none⟩) 4 [(0, 0), (1, 0), (2, 1), (2, 2)] := by
  have h := own_reads_of' (d := (0, 0)) (own_lit_of (enc := pt) w w.heap.size 30 [(0, 0), (1, 0), (2, 1), (2, 2)] (Nat.le_refl _) (by simp))
  have e : encs pt [(0, 0), (1, 0), (2, 1), (2, 2)] = [.complex .f64 0 0, .complex .f64 4607182418800017408 0, .complex .f64 4611686018427387904 4607182418800017408, .complex .f64 4611686018427387904 4611686018427387904] := by
    simp only [encs, List.map_cons, List.map_nil, pt, fl_0, fl_1, fl_2]
  rw [e] at h
  exact h
theorem aw19_size : ∀ s ∈ [sX, sY], s.size ≤ maxLen := by decide
theorem aw19_size2 : ∀ s ∈ [sY, sZ], s.size ≤ maxLen := by decide
/-- The two lists of awake, laid. -/
def awW (w : World) : World := (w.alloc (.cells #[.string ⟨#[120]⟩, .string ⟨#[121]⟩] 9)).alloc (.cells #[.string ⟨#[121]⟩, .string ⟨#[122]⟩] 9)
theorem aw19_two (w : World) : ReadsOf Value.string ByteArray.empty (awW w) (some ⟨w.heap.size, 0, none⟩) 2 [sX, sY] ∧ ReadsOf Value.string ByteArray.empty (awW w) (some ⟨w.heap.size + 1, 0, none⟩) 2 [sY, sZ] ∧ Below w.heap.size w (awW w) := by
  refine ⟨(aw19_lits w sX sY).below (below_alloc (Below.refl _ _) _), ?_, below_alloc (below_alloc (Below.refl _ _) _) _⟩
  have h := aw19_lits (w.alloc (.cells #[.string ⟨#[120]⟩, .string ⟨#[121]⟩] 9)) sY sZ
  have e : (w.alloc (.cells #[.string ⟨#[120]⟩, .string ⟨#[121]⟩] 9)).heap.size = w.heap.size + 1 := by simp
  rw [e] at h
  exact h
theorem aw19_way (w : World) : Calls Try.prog 9 #[.slice (some ⟨w.heap.size, 0, none⟩) 2 2, .slice (some ⟨w.heap.size + 1, 0, none⟩) 2 2] (awW w) fun e w' => ∃ B d, e = .returned (.tuple #[.slice B 4 d, .int .i64 0]) ∧ ReadsOf pt (0, 0) w' B 4 [(0, 0), (1, 0), (2, 1), (2, 2)] ∧ Below w.heap.size w w' := by
  have h := aw19_two w
  refine (diffWay_calls (awW w) _ 2 [sX, sY] _ 2 [sY, sZ] h.1 h.2.1 (by decide) (by decide) aw19_size aw19_size2).mono ?_
  rintro e w1 ⟨v, rfl, hv, hb⟩
  rw [way_xy] at hv
  obtain ⟨B, d, rfl⟩ := own_slice hv
  exact ⟨B, d, rfl, own_reads_of' hv, below_then h.2.2 h.2.2.size hb⟩
theorem aw19_rest (w : World) : Calls Try.prog 10 #[.slice (some ⟨w.heap.size, 0, none⟩) 2 2, .slice (some ⟨w.heap.size + 1, 0, none⟩) 2 2] (awW w) fun e w' => e = .returned (.tuple #[.int .i64 2, .int .i64 0]) ∧ Below w.heap.size w w' := by
  have h := aw19_two w
  refine (rest_calls (awW w) _ 2 [sX, sY] _ 2 [sY, sZ] h.1 h.2.1 (by decide) (by decide) aw19_size aw19_size2).mono ?_
  rintro e w1 ⟨rfl, hb⟩
  rw [rest_xy]
  exact ⟨rfl, below_then h.2.2 h.2.2.size hb⟩
set_option maxRecDepth 8000 in
set_option maxHeartbeats 2000000 in
theorem codicillaw19_awake.calls (r : Bool) (w : World) (h : codicillaw19_awake.f = some r) :
    Calls Try.prog 8 #[] w fun e w' => e = .returned (.bool r) ∧ Below w.heap.size w w' := by
  obtain rfl := Option.some.inj h
  go_enter Try.func8, Try.ntmps8
  go_wp2_with fail
  refine (aw19_way w).mono ?_
  rintro e w1 ⟨B1, d1, rfl, hv1, hb1⟩
  have HV1 := Lib.hid hv1
  have HB1 := Lib.hid hb1
  clear hv1 hb1
  go_wp2_with fail
  refine (aw19_rest w1).mono ?_
  rintro e w2 ⟨rfl, hb2⟩
  have HV2 := Lib.hid (HV1.out.below hb2)
  have HB2 := Lib.hid (below_then HB1.out HB1.out.size hb2)
  clear hb2 HV1 HB1
  go_wp2_with fail
  refine (sameWay_calls _ B1 d1 (some ⟨w2.heap.size, 0, none⟩) 4 [(0, 0), (1, 0), (2, 1), (2, 2)] (HV2.out.below (below_alloc (Below.refl _ _) _)) (aw19_pts w2) (by decide) (by decide)).mono ?_
  rintro e w3 ⟨rfl, k3, rfl⟩
  go_wp2_with fail
  go_ret
  exact ⟨rfl, pw_below_drewN (below_alloc HB2.out _) _⟩


/-! ### codicillaw19_DiffShortest: function 3 -/
theorem eq_guardC (op : BinOp) (u v : Operand) (x y z t : Nat) (w : World) : (eqGuard op 30 u v (.complex .f64 x y) (.complex .f64 z t)).run Try.prog w = .ok () w := by
  cases u <;> cases v <;> cases op <;> rfl
theorem cx_selfC (x y : Nat) (h1 : x ≤ 61) (h2 : y ≤ 61) (w : World) : (binOp .neq 30 (.complex .f64 (fl x) (fl y)) (.complex .f64 (fl x) (fl y))).run Try.prog w = .ok (.bool false) w := cx_self (x, y) h1 h2 w
theorem k11_11 (w : World) : (binOp .eql 30 (.complex .f64 4607182418800017408 4607182418800017408) (.complex .f64 4607182418800017408 4607182418800017408)).run Try.prog w = .ok (.bool true) w := by kernel_rfl
theorem k10_11 (w : World) : (binOp .eql 30 (.complex .f64 4607182418800017408 0) (.complex .f64 4607182418800017408 4607182418800017408)).run Try.prog w = .ok (.bool false) w := by kernel_rfl
theorem k01_11 (w : World) : (binOp .eql 30 (.complex .f64 0 4607182418800017408) (.complex .f64 4607182418800017408 4607182418800017408)).run Try.prog w = .ok (.bool false) w := by kernel_rfl
theorem k10_10 (w : World) : (binOp .eql 30 (.complex .f64 4607182418800017408 0) (.complex .f64 4607182418800017408 0)).run Try.prog w = .ok (.bool true) w := by kernel_rfl
theorem k01_10 (w : World) : (binOp .eql 30 (.complex .f64 0 4607182418800017408) (.complex .f64 4607182418800017408 0)).run Try.prog w = .ok (.bool false) w := by kernel_rfl
theorem k01_01 (w : World) : (binOp .eql 30 (.complex .f64 0 4607182418800017408) (.complex .f64 0 4607182418800017408)).run Try.prog w = .ok (.bool true) w := by kernel_rfl
set_option maxRecDepth 20000 in
set_option maxHeartbeats 40000000 in
theorem shortest_calls (w : World) (A : Option Addr) (ca : Nat) (a : List ByteArray) (B : Option Addr) (cb : Nat) (b : List ByteArray) (hra : ReadsOf Value.string ByteArray.empty w A a.length a) (hrb : ReadsOf Value.string ByteArray.empty w B b.length b) (sa : ∀ s ∈ a, s.size ≤ maxLen) (sb : ∀ s ∈ b, s.size ≤ maxLen) :
    Calls Try.prog 3 #[.slice A a.length ca, .slice B b.length cb] w fun e w' => e = .returned (.bool true) ∧ Below w.heap.size w w' := by
  have HRA := Lib.hid hra
  have HRB := Lib.hid hrb
  have HSA := Lib.hid sa
  have HSB := Lib.hid sb
  have HAW := Lib.hid (show codicillaw19_awake.f = some true from rfl)
  clear hra hrb sa sb
  by_cases hbig : 10 < a.length
  · have g1 : (a.length : Int) > 10 := by omega
    go_enter Try.func3, Try.ntmps3
    go_wp2_with fail
    refine (codicillaw19_awake.calls true _ HAW.out).mono ?_
    rintro e w0 ⟨rfl, hb0⟩
    have HB0 := Lib.hid hb0
    clear hb0
    go_wp2_with fail
    go_ret
    exact ⟨rfl, HB0.out⟩
  have g1 : ¬ (a.length : Int) > 10 := by omega
  by_cases hbig2 : 10 < b.length
  · have g2 : (b.length : Int) > 10 := by omega
    go_enter Try.func3, Try.ntmps3
    go_wp2_with fail
    refine (codicillaw19_awake.calls true _ HAW.out).mono ?_
    rintro e w0 ⟨rfl, hb0⟩
    have HB0 := Lib.hid hb0
    clear hb0
    go_wp2_with fail
    go_ret
    exact ⟨rfl, HB0.out⟩
  have g2 : ¬ (b.length : Int) > 10 := by omega
  have ha10 : a.length ≤ 10 := by omega
  have hb10 : b.length ≤ 10 := by omega
  clear hbig hbig2
  obtain ⟨d, hd⟩ : ∃ d, d = dist (txs a) (txs b) := ⟨_, rfl⟩
  obtain ⟨P, hP⟩ : ∃ P, P = wayP a b := ⟨_, rfl⟩
  have hPl : P.length = (wayW a b 0 0).length + 1 := by rw [hP]; rfl
  have hPm := way_len a b _ 0 0 rfl (by omega) (by omega)
  have hPlast : P.getD (P.length - 1) (0, 0) = (a.length, b.length) := by
    rw [hPl, hP]
    exact way_last a b _ 0 0 rfl (by omega) (by omega) (0, 0)
  have hP0 : P.getD 0 (0, 0) = (0, 0) := by rw [hP]; rfl
  have HD := Lib.hid hd
  have HPP := Lib.hid hP
  obtain ⟨m, hm⟩ : ∃ m, m = P.length := ⟨_, rfl⟩
  have hm1 : 1 ≤ m := by omega
  have hm2 : m ≤ 21 := by omega
  have HM := Lib.hid hm
  have HPlast := Lib.hid hPlast
  clear hd hP hPl hPm hm hPlast
  go_enter Try.func3, Try.ntmps3
  go_wp2_with fail
  refine (codicillaw19_awake.calls true _ HAW.out).mono ?_
  rintro e w0 ⟨rfl, hb0⟩
  have HB0 := Lib.hid hb0
  clear hb0
  go_wp2_with fail
  refine (diffWay_calls w0 A ca a B cb b (HRA.out.below HB0.out) (HRB.out.below HB0.out) (by omega) (by omega) HSA.out HSB.out).mono ?_
  rintro e w1 ⟨v, rfl, hv, hb1⟩
  rw [← HPP.out, ← HM.out] at hv
  obtain ⟨Aw, cw, rfl⟩ := own_slice hv
  have HB1 := Lib.hid (below_then HB0.out HB0.out.size hb1)
  have HV1 := Lib.hid (own_reads_of' (d := (0, 0)) hv)
  clear hv hb1
  go_wp2_with fail
  refine (rest_calls w1 A ca a B cb b (HRA.out.below HB1.out) (HRB.out.below HB1.out) (by omega) (by omega) HSA.out HSB.out).mono ?_
  rintro e w2 ⟨rfl, hb2⟩
  rw [← HD.out]
  have HB2 := Lib.hid (below_then HB1.out HB1.out.size hb2)
  have HV2 := Lib.hid (HV1.out.below hb2)
  clear hb2
  obtain ⟨aw, hAw, hcw⟩ := HV2.out.2.2 (by omega)
  subst hAw
  have c0 : w2.cell? aw = some (.complex .f64 (fl 0) (fl 0)) := by have h := hcw 0 (by omega); rw [hP0, show aw.add 0 = aw from by cases aw; simp [Addr.add]] at h; exact h
  obtain ⟨m1, hm1e⟩ : ∃ m1, m1 = m - 1 := ⟨_, rfl⟩
  have c1 : w2.cell? (aw.add m1) = some (.complex .f64 (fl a.length) (fl b.length)) := by
    have h := hcw m1 (by omega)
    rw [hm1e, HM.out, HPlast.out] at h
    rw [hm1e, HM.out]
    exact h
  rw [fl_0] at c0
  have em1 : (m : Int) - 1 = (m1 : Int) := by omega
  have f1 : ((m : Int) == 0) = false := by simp; omega
  have n0 := cx_selfC 0 0 (by omega) (by omega)
  rw [fl_0] at n0
  have n1 := cx_selfC a.length b.length (by omega) (by omega)
  have gd0 := eq_guardC .neq (.tmp 55) (.const (.complex .f64 0 0)) 0 0 0 0
  have gd1 := eq_guardC .neq (.tmp 64) (.tmp 71) (fl a.length) (fl b.length) (fl a.length) (fl b.length)
  have e1 := cv_if a.length
  have e2 := cv_if b.length
  have i1 : (m1 : Int) < (m : Int) := by omega
  have i0 : (0 : Int) ≤ (m1 : Int) := by omega
  have i2 : (0 : Int) < (m : Int) := by omega
  have HM1 := Lib.hid hm1e
  have HP0 := Lib.hid hP0
  have HCW := Lib.hid hcw
  clear hm1e hP0 hcw
  go_wp2_with fail
  clear c0 c1 n0 n1 gd0 gd1 e1 e2 i0 i1 i2 f1 em1
  go_loopw [9, 10] (fun v9 v10 wr => ∃ (i cnt x y : Nat), v9 = .int .i64 cnt ∧ v10 = .int .i64 i ∧ 1 ≤ i ∧ i ≤ m ∧ x ≤ a.length ∧ y ≤ b.length ∧ Hid (P.drop (i - 1) = (x, y) :: wayW a b x y) ∧ Hid (cnt + dd a b x y = d) ∧ cnt ≤ i ∧ Hid (∃ k, wr = w2.drewN k)) (fun _ v10 _ => m - (intOf v10).toNat)
  case atStart => exact ⟨1, 0, 0, 0, rfl, rfl, by omega, by omega, by omega, by omega, Lib.hid (by rw [HPP.out]; rfl), Lib.hid (by rw [HD.out]; simp [dd]), by omega, Lib.hid ⟨0, rfl⟩⟩
  case round =>
    obtain ⟨i, cnt, x, y, rfl, rfl, hi1, him, hx, hy, hdr, hcn, hci, hw⟩ := hrel
    by_cases hlt : i < m
    · obtain ⟨j, hj⟩ : ∃ j, j = i - 1 := ⟨_, rfl⟩
      have hdr' := hdr.out
      rw [← hj] at hdr'
      have hend : ¬ (x = a.length ∧ y = b.length) := fun h => by
        have h2 := congrArg List.length hdr'
        rw [h.1, h.2, wayW_end, List.length_drop, ← HM.out] at h2
        simp at h2
        omega
      have hgo := wayW_go hx hy hend
      have hin := stepD_in hx hy hend
      have hds := dd_step hx hy hend
      have hgj : P.getD j (0, 0) = (x, y) := by
        have h := congrArg (fun l => l.getD 0 (0, 0)) hdr'
        simpa [List.getD_eq_getElem?_getD, List.getElem?_drop] using h
      have hdr2 : P.drop i = wayW a b x y := by
        have h := congrArg (fun l => l.drop 1) hdr'
        simp only [List.drop_drop] at h
        rw [show j + 1 = i by omega] at h
        simpa using h
      have hstep : stepD a b x y = (1, 1) → x < a.length ∧ y < b.length ∧ (txs a).getD x [] = (txs b).getD y [] := fun h => by
        unfold stepD at h
        by_cases h1 : x < a.length ∧ y < b.length ∧ (txs a).getD x [] = (txs b).getD y []
        · exact h1
        · rw [if_neg h1] at h
          split at h <;> cases h
      generalize stepD a b x y = s at hgo hin hds hstep
      obtain ⟨dx, dy⟩ := s
      simp only at hgo hin hds
      rw [hgo] at hdr2
      have hgi : P.getD i (0, 0) = (x + dx, y + dy) := by
        have h := congrArg (fun l => l.getD 0 (0, 0)) hdr2
        simpa [List.getD_eq_getElem?_getD, List.getElem?_drop] using h
      have k1 : wr.cell? (aw.add j) = some (.complex .f64 (fl x) (fl y)) := by
        obtain ⟨k, rfl⟩ := hw.out
        have h := HCW.out j (by omega)
        rw [hgj] at h
        exact h
      have k2 : wr.cell? (aw.add i) = some (.complex .f64 (fl (x + dx)) (fl (y + dy))) := by
        obtain ⟨k, rfl⟩ := hw.out
        have h := HCW.out i (by omega)
        rw [hgi] at h
        exact h
      have wj : IntKind.i64.wrap ((i : Int) - 1) = (j : Int) := by rw [IntKind.wrap_i64]; omega
      have j0 : (0 : Int) ≤ (j : Int) := by omega
      have j1 : (j : Int) < (m : Int) := by omega
      have i0 : (0 : Int) ≤ (i : Int) := by omega
      have i1 : (i : Int) < (m : Int) := by omega
      have cv1 := cv_fi x (by omega)
      have cv2 := cv_fi y (by omega)
      have hsub := cx_sub x y dx dy (by omega) (by omega) hin.2.2.2.1 hin.2.2.2.2
      have HDR2 := Lib.hid hdr2
      have HGO := Lib.hid hgo
      have HIN := Lib.hid hin
      have HDS := Lib.hid hds
      have HST := Lib.hid hstep
      have HJ := Lib.hid hj
      clear hgo hin hds hstep hdr2 hdr' hgi hgj hend hj
      go_wp2_with fail
      go_quiet (fail)
      have K1 : (wr.drewN nq).cell? (aw.add j) = some (.complex .f64 (fl x) (fl y)) := k1
      have K2 : (wr.drewN nq).cell? (aw.add i) = some (.complex .f64 (fl (x + dx)) (fl (y + dy))) := k2
      have HW3 : Hid (∃ k, wr.drewN nq = w2.drewN k) := Lib.hid (by obtain ⟨k, hk⟩ := hw.out; exact ⟨k + nq, by rw [hk, World.drewN_drewN]⟩)
      clear k1 k2 hw
      generalize wr.drewN nq = w3 at *
      go_wp2_with fail
      go_quiet (fail)
      have HW4 : Hid (∃ k, w3.drewN nq = w2.drewN k) := Lib.hid (by obtain ⟨k, hk⟩ := HW3.out; exact ⟨k + nq, by rw [hk, World.drewN_drewN]⟩)
      clear K1 K2 HW3 hsub cv1 cv2
      generalize w3.drewN nq = w4 at *
      have hin := HIN.out
      have hxx := hin.1
      have hyy := hin.2.1
      have hc : (dx = 1 ∧ dy = 1) ∨ (dx = 1 ∧ dy = 0) ∨ (dx = 0 ∧ dy = 1) := by omega
      clear hin
      rcases hc with ⟨rfl, rfl⟩ | ⟨rfl, rfl⟩ | ⟨rfl, rfl⟩
      · rw [fl_1]
        have kk1 := k11_11
        have gd1 := eq_guardC .eql (.tmp 103) (.const (.complex .f64 4607182418800017408 4607182418800017408)) 4607182418800017408 4607182418800017408 4607182418800017408 4607182418800017408
        obtain ⟨hxl, hyl, hxy⟩ := HST.out rfl
        have hse : a.getD x ByteArray.empty = b.getD y ByteArray.empty := tx_inj (by
          simpa [txs, List.getD_eq_getElem?_getD, List.getElem?_eq_getElem hxl, List.getElem?_eq_getElem hyl] using hxy)
        obtain ⟨aa, hAa, hca⟩ := (HRA.out.below HB2.out).2.2 (by omega)
        obtain ⟨ab, hAb, hcb⟩ := (HRB.out.below HB2.out).2.2 (by omega)
        subst hAa hAb
        have ka : w4.cell? (aa.add x) = some (.string (a.getD x ByteArray.empty)) := by obtain ⟨k, rfl⟩ := HW4.out; exact hca x hxl
        have kb : w4.cell? (ab.add y) = some (.string (a.getD x ByteArray.empty)) := by obtain ⟨k, rfl⟩ := HW4.out; rw [hse]; exact hcb y hyl
        generalize a.getD x ByteArray.empty = sx at ka kb
        have x0 : (0 : Int) ≤ (x : Int) := by omega
        have y0 : (0 : Int) ≤ (y : Int) := by omega
        have x1 : (x : Int) < (a.length : Int) := by omega
        have y1 : (y : Int) < (b.length : Int) := by omega
        have q1 : decide ((x : Int) < 0) = false := by simp
        have q2 : decide ((y : Int) < 0) = false := by simp
        have q3 : decide ((x : Int) ≥ (a.length : Int)) = false := by simp; omega
        have q4 : decide ((y : Int) ≥ (b.length : Int)) = false := by simp; omega
        have q5 : decide (a.length ≤ x) = false := by simp; omega
        have q6 : decide (b.length ≤ y) = false := by simp; omega
        clear hse hca hcb hxy hxl hyl
        go_wp2_with fail
        go_quiet (fail)
        have HW5 : Hid (∃ k, w4.drewN nq = w2.drewN k) := Lib.hid (by obtain ⟨k, hk⟩ := HW4.out; exact ⟨k + nq, by rw [hk, World.drewN_drewN]⟩)
        clear ka kb HW4
        generalize w4.drewN nq = w5 at *
        have HW4 := HW5
        go_wp2_with fail
        go_roundw
        case rel => exact ⟨i + 1, cnt, x + 1, y + 1, by go_num, by go_num, by omega, by omega, hxx, hyy, Lib.hid (by rw [show i + 1 - 1 = i by omega]; exact HDR2.out), Lib.hid (by have h1 := hcn.out; have h2 := HDS.out; rw [if_pos trivial] at h2; omega), by omega, HW4⟩
        case measure => simp [intOf]; omega
      · rw [fl_1, fl_0]
        have kk1 := k10_11
        have kk2 := k10_10
        have gd1 := eq_guardC .eql (.tmp 103) (.const (.complex .f64 4607182418800017408 4607182418800017408)) 4607182418800017408 0 4607182418800017408 4607182418800017408
        have gd2 := eq_guardC .eql (.tmp 103) (.const (.complex .f64 4607182418800017408 0)) 4607182418800017408 0 4607182418800017408 0
        go_wp2_with fail
        go_roundw
        case rel => exact ⟨i + 1, cnt + 1, x + 1, y + 0, by go_num, by go_num, by omega, by omega, hxx, hyy, Lib.hid (by rw [show i + 1 - 1 = i by omega]; exact HDR2.out), Lib.hid (by have h1 := hcn.out; have h2 := HDS.out; rw [if_neg (by decide)] at h2; omega), by omega, HW4⟩
        case measure => simp [intOf]; omega
      · rw [fl_1, fl_0]
        have kk1 := k01_11
        have kk2 := k01_10
        have kk3 := k01_01
        have gd1 := eq_guardC .eql (.tmp 103) (.const (.complex .f64 4607182418800017408 4607182418800017408)) 0 4607182418800017408 4607182418800017408 4607182418800017408
        have gd2 := eq_guardC .eql (.tmp 103) (.const (.complex .f64 4607182418800017408 0)) 0 4607182418800017408 4607182418800017408 0
        have gd3 := eq_guardC .eql (.tmp 103) (.const (.complex .f64 0 4607182418800017408)) 0 4607182418800017408 0 4607182418800017408
        go_wp2_with fail
        go_roundw
        case rel => exact ⟨i + 1, cnt + 1, x + 0, y + 1, by go_num, by go_num, by omega, by omega, hxx, hyy, Lib.hid (by rw [show i + 1 - 1 = i by omega]; exact HDR2.out), Lib.hid (by have h1 := hcn.out; have h2 := HDS.out; rw [if_neg (by decide)] at h2; omega), by omega, HW4⟩
        case measure => simp [intOf]; omega
    · obtain rfl : i = m := by omega
      have hend : x = a.length ∧ y = b.length := Classical.byContradiction fun h => by
        have h2 := congrArg List.length hdr.out
        rw [wayW_go hx hy h, List.length_drop, ← HM.out] at h2
        simp at h2
        omega
      have hcd : cnt = d := by have h := hcn.out; rw [hend.1, hend.2, dd_last] at h; omega
      subst hcd
      clear hend hdr hcn hx hy hlt hci
      obtain ⟨N, hN⟩ : ∃ N, N = 2 ^ a.length := ⟨_, rfl⟩
      have hNb : N ≤ 1024 := by rw [hN]; exact Nat.le_trans (Nat.pow_le_pow_right (by decide) ha10) (by decide)
      have HN := Lib.hid hN
      have hNI : (2 : Int) ^ a.length = (N : Int) := by rw [hN]; simp
      clear hN
      go_wp2_with fail
      clear hNI
      go_loopw [13, 143] (fun v13 v143 wr => ∃ k : Nat, v143 = .int .i64 k ∧ k ≤ N ∧ v13 = .int .i64 (mostF (txs a) (txs b) k) ∧ Hid (∃ q, wr = w2.drewN q)) (fun _ v143 _ => N - (intOf v143).toNat)
      case atStart => exact ⟨0, rfl, by omega, rfl, hw⟩
      case round =>
        obtain ⟨k, rfl, hk, rfl, hw⟩ := hrel
        have hMb := mostF_le (txs a) (txs b) (a.length : Int) (by omega) (fun j => by have h := (pickF_le (txs a) (txs b) j).2; rwa [show (txs a).length = a.length from by simp [txs]] at h) k
        by_cases hlt : k < N
        · have hmk : mostF (txs a) (txs b) (k + 1) = if mostF (txs a) (txs b) k < pickF (selF k (txs a)) (txs b) 0 then pickF (selF k (txs a)) (txs b) 0 else mostF (txs a) (txs b) k := rfl
          have HMK := Lib.hid hmk
          have hFb := pickF_le (txs a) (txs b) k
          rw [show (txs a).length = a.length from by simp [txs]] at hFb
          clear hmk
          generalize mostF (txs a) (txs b) k = M at hMb HMK ⊢
          obtain ⟨FIN, hFIN⟩ : ∃ F, F = pickF (selF k (txs a)) (txs b) 0 := ⟨_, rfl⟩
          rw [← hFIN] at HMK hFb
          have HFIN := Lib.hid hFIN
          clear hFIN
          have k1 : (k : Int) < (N : Int) := by omega
          have k0 : (0 : Int) ≤ (k : Int) := by omega
          go_wp2_with fail
          go_loopw [148, 15, 16] (fun v148 v15 v16 wr => ∃ (i t z : Nat), v148 = .int .i64 i ∧ v15 = .int .i64 z ∧ v16 = .int .i64 t ∧ i ≤ a.length ∧ t ≤ b.length ∧ z ≤ i ∧ Hid (pickF (selF (k / 2 ^ i) ((txs a).drop i)) ((txs b).drop t) (z : Int) = FIN) ∧ Hid (∃ q, wr = w2.drewN q)) (fun v148 _ _ _ => a.length - (intOf v148).toNat)
          case atStart => exact ⟨0, 0, 0, rfl, rfl, rfl, by omega, by omega, by omega, Lib.hid (by rw [HFIN.out]; simp), hw⟩
          case round =>
            obtain ⟨i, t, z, rfl, rfl, rfl, hi, ht, hz, hpf, hw⟩ := hrel
            by_cases hil : i < a.length
            · have i0 : (0 : Int) ≤ (i : Int) := by omega
              have i1 : (i : Int) < (a.length : Int) := by omega
              have i64 : (i : Int) < 64 := by omega
              obtain ⟨aa, hAa, hca⟩ := (HRA.out.below HB2.out).2.2 (by omega)
              have HAa := Lib.hid hAa
              have ka : wr.cell? (aa.add i) = some (.string (a.getD i ByteArray.empty)) := by obtain ⟨q, rfl⟩ := hw.out; exact hca i hil
              have hpf' := hpf.out
              rw [txs_drop a i hil] at hpf'
              obtain ⟨s, hs⟩ : ∃ s, s = a.getD i ByteArray.empty := ⟨_, rfl⟩
              rw [← hs] at ka hpf'
              have hkd : k / 2 ^ i / 2 = k / 2 ^ (i + 1) := by rw [Nat.div_div_eq_div_mul, ← Nat.pow_succ]
              have hle : k / 2 ^ i ≤ k := Nat.div_le_self _ _
              have hbit : bits .and .i64 ((k : Int) / 2 ^ i) 1 = ((k / 2 ^ i % 2 : Nat) : Int) := by
                rw [show ((k : Int) / 2 ^ i) = ((k / 2 ^ i : Nat) : Int) from by simp]
                exact and_one _ (by omega)
              have hb2 : k / 2 ^ i % 2 < 2 := Nat.mod_lt _ (by decide)
              subst hAa
              clear hs hca hle
              rcases Nat.eq_zero_or_pos (k / 2 ^ i % 2) with hbz | hbz
              · have hpf2 := hpf'
                rw [sel_skip hbz, hkd] at hpf2
                have HPF := Lib.hid hpf2
                rw [hbz] at hbit
                clear hpf' hpf2 hb2 hbz hkd
                go_wp2_with fail
                go_roundw
                case rel => exact ⟨i + 1, t, z, by go_num, rfl, rfl, by omega, ht, by omega, HPF, hw⟩
                case measure => simp [intOf]; omega
              · have hb1 : k / 2 ^ i % 2 = 1 := by omega
                have hpf2 := hpf'
                rw [sel_take hb1, hkd, pickF] at hpf2
                have HPF := Lib.hid hpf2
                rw [hb1] at hbit
                clear hpf' hpf2 hb2 hbz hb1 hkd
                go_wp2_with fail
                go_loopw [16] (fun v16 wr => ∃ u : Nat, v16 = .int .i64 u ∧ u ≤ b.length ∧ Hid (after (tx s) ((txs b).drop u) = after (tx s) ((txs b).drop t)) ∧ Hid (∃ q, wr = w2.drewN q)) (fun v16 _ => b.length - (intOf v16).toNat)
                case atStart => exact ⟨t, rfl, ht, Lib.hid rfl, hw⟩
                case round =>
                  obtain ⟨u, rfl, hu, haf, hw⟩ := hrel
                  clear ka
                  by_cases hul : u < b.length
                  · have u0 : (0 : Int) ≤ (u : Int) := by omega
                    have u1 : (u : Int) < (b.length : Int) := by omega
                    obtain ⟨ab, hAb, hcb⟩ := (HRB.out.below HB2.out).2.2 (by omega)
                    have kb : wr.cell? (ab.add u) = some (.string (b.getD u ByteArray.empty)) := by obtain ⟨q, rfl⟩ := hw.out; exact hcb u hul
                    have haf' := haf.out
                    rw [txs_drop b u hul, after] at haf'
                    obtain ⟨y, hy⟩ : ∃ y, y = b.getD u ByteArray.empty := ⟨_, rfl⟩
                    rw [← hy] at kb haf'
                    subst hAb
                    clear hy hcb
                    by_cases hys : tx y = tx s
                    · rw [if_pos hys] at haf'
                      have hpf3 := HPF.out
                      rw [← haf'] at hpf3
                      have HPF3 := Lib.hid hpf3
                      have ye : y = s := tx_inj hys
                      rw [ye] at kb
                      have f1 : ((u : Int) == (b.length : Int)) = false := by simp; omega
                      clear haf' hpf3 hys ye
                      go_wp2_with fail
                      go_roundw
                      case rel => exact ⟨i + 1, u + 1, z + 1, by go_num, by go_num, by go_num, by omega, by omega, by omega, HPF3, hw⟩
                      case measure => simp [intOf]; omega
                    · rw [if_neg hys] at haf'
                      have HAF := Lib.hid haf'
                      have hne : (y.toList == s.toList) = false := by
                        rw [ByteArray.toList_eq, ByteArray.toList_eq]
                        simpa [tx] using hys
                      clear haf' hys
                      go_wp2_with fail
                      go_roundw
                      case rel => exact ⟨u + 1, by go_num, by omega, HAF, hw⟩
                      case measure => simp [intOf]; omega
                  · obtain rfl : u = b.length := by omega
                    have hFz : FIN = -100 := by
                      have h := haf.out
                      rw [List.drop_of_length_le (by simp [txs]), after] at h
                      have h2 := HPF.out
                      rw [← h] at h2
                      exact h2.symm
                    have hm' := HMK.out
                    rw [hFz, if_neg (by omega)] at hm'
                    have HM' := Lib.hid hm'
                    have hmx : ¬ M < -100 := by omega
                    clear hm' hFz
                    go_wp2_with fail
                    go_roundw
                    case rel => exact ⟨k + 1, by go_num, by omega, by rw [HM'.out], hw⟩
                    case measure => simp [intOf]; omega
            · obtain rfl : i = a.length := by omega
              have hFz : FIN = (z : Int) := by
                have h := hpf.out
                rw [List.drop_of_length_le (by simp [txs]), selF, pickF] at h
                exact h.symm
              subst hFz
              clear hpf
              by_cases hmx : M < (z : Int)
              · have hm' := HMK.out
                rw [if_pos hmx] at hm'
                have HM' := Lib.hid hm'
                clear hm'
                go_wp2_with fail
                go_roundw
                case rel => exact ⟨k + 1, by go_num, by omega, by rw [HM'.out], hw⟩
                case measure => simp [intOf]; omega
              · have hm' := HMK.out
                rw [if_neg hmx] at hm'
                have HM' := Lib.hid hm'
                clear hm'
                go_wp2_with fail
                go_roundw
                case rel => exact ⟨k + 1, by go_num, by omega, by rw [HM'.out], hw⟩
                case measure => simp [intOf]; omega
        · obtain rfl : k = N := by omega
          have hmost := most_is (txs a) (txs b)
          rw [show (txs a).length = a.length from by simp [txs], show (txs b).length = b.length from by simp [txs], ← HN.out, ← HD.out] at hmost
          generalize mostF (txs a) (txs b) k = M at hMb hmost ⊢
          have hfin : ((cnt : Int) == (a.length : Int) + (b.length : Int) - 2 * M) = true := by simp; omega
          go_wp2_with fail
          go_ret
          obtain ⟨q, rfl⟩ := hw.out
          exact ⟨rfl, pw_below_drewN HB2.out q⟩


end Go.Proofs.Ytanfodjjfajobaa.PDS
