/- codicilref19.Way: walked. -/
import Derived.Test.YtmnpcignolofaaaHRestsW
namespace Go.Proofs.Ytmnpcignolofaaa
set_option linter.unusedVariables false
set_option linter.unusedSimpArgs false
open Go.RowKit Go.Proofs.YtmnpcignolofaaaW.PrintWords Go.Proofs.YtmnpcignolofaaaW.PrintMore
/-- The table at Tb, only read. -/
structure RtC (Tb n m : Nat) (R : Nat → List Int) (W : World) : Prop where
  blk : W.heap[Tb]? = some (.cells (rtCells Tb n m 0).toArray 56 (0, 0))
  rows : ∀ x, x ≤ n → W.heap[Tb + 1 + n - x]? = some (.cells (nums .i64 (R x)).toArray 3 (0, 0)) ∧ (R x).length = m + 1
theorem Rt.toC {w0 : World} {Tb n m : Nat} {R : Nat → List Int} {W : World} (h : Rt w0 Tb n m R 0 W) : RtC Tb n m R W := ⟨h.blk, fun x hx => h.rows x (by omega) hx⟩
theorem RtC.below {Tb n m : Nat} {R : Nat → List Int} {W W' : World} (h : RtC Tb n m R W) (hb : Below W.heap.size W W') : RtC Tb n m R W' :=
  ⟨(hb.block _ (blk_lt h.blk)).trans h.blk, fun x hx => ⟨(hb.block _ (blk_lt (h.rows x hx).1)).trans (h.rows x hx).1, (h.rows x hx).2⟩⟩
theorem RtC.outer {Tb n m : Nat} {R : Nat → List Int} {W : World} (h : RtC Tb n m R W) (x : Nat) (hn : x ≤ n) : W.cell? ⟨Tb, x, none⟩ = some (.slice (some ⟨Tb + 1 + n - x, 0, none⟩) (m + 1) (m + 1)) := by
  rw [blk_cell h.blk x, rtCells_at _ _ _ _ _ hn, if_pos (by omega)]
theorem RtC.inner {Tb n m : Nat} {R : Nat → List Int} {W : World} (h : RtC Tb n m R W) (x y : Nat) (hn : x ≤ n) (hy : y ≤ m) : W.cell? ⟨Tb + 1 + n - x, y, none⟩ = some (.int .i64 ((R x).getD y 0)) := by
  have hr := h.rows x hn
  rw [blk_cell hr.1 y]
  simp [nums, List.getElem?_eq_getElem (show y < (R x).length by omega), List.getD_eq_getElem?_getD]
theorem add_11 (x y : Nat) (hx : x ≤ 1000) (hy : y ≤ 1000) (w : World) : (binOp .add 30 (.complex .f64 (fl x) (fl y)) (.complex .f64 4607182418800017408 4607182418800017408)).run Try.prog w = .ok (.complex .f64 (fl (x + 1)) (fl (y + 1))) w := by
  have h := cx_add x y 1 1 hx hy (by omega) (by omega) w
  rwa [fl_1] at h
theorem add_10 (x y : Nat) (hx : x ≤ 1000) (hy : y ≤ 1000) (w : World) : (binOp .add 30 (.complex .f64 (fl x) (fl y)) (.complex .f64 4607182418800017408 0)).run Try.prog w = .ok (.complex .f64 (fl (x + 1)) (fl (y + 0))) w := by
  have h := cx_add x y 1 0 hx hy (by omega) (by omega) w
  rwa [fl_1, fl_0] at h
theorem add_01 (x y : Nat) (hx : x ≤ 1000) (hy : y ≤ 1000) (w : World) : (binOp .add 30 (.complex .f64 (fl x) (fl y)) (.complex .f64 0 4607182418800017408)).run Try.prog w = .ok (.complex .f64 (fl (x + 0)) (fl (y + 1))) w := by
  have h := cx_add x y 0 1 hx hy (by omega) (by omega) w
  rwa [fl_0, fl_1] at h
set_option maxRecDepth 20000 in
set_option maxHeartbeats 40000000 in
theorem refWay_calls (w : World) (A : Option Addr) (ca : Nat) (a : List ByteArray) (B : Option Addr) (cb : Nat) (b : List ByteArray) (hla : ReadsOf Value.string ByteArray.empty w A a.length a) (hlb : ReadsOf Value.string ByteArray.empty w B b.length b)
    (hna : a.length ≤ 1000) (hnb : b.length ≤ 1000) :
    Calls Try.prog 24 #[.slice A a.length ca, .slice B b.length cb] w fun e w' => ∃ v, e = .returned v ∧ w'.ownsRow w.heap.size 30 1 v (wayP a b).length (encs pt (wayP a b)) ∧ Below w.heap.size w w' := by
  have HLA := Lib.hid hla
  have HLB := Lib.hid hlb
  have HR := Lib.hid (rests_calls w A ca a B cb b hla hlb hna hnb)
  clear hla hlb
  go_enter Try.func24, Try.ntmps24
  go_wp2_with fail
  refine HR.out.mono ?_
  rintro e w1 ⟨R, rfl, hrt, hok⟩
  have HRT := Lib.hid hrt.toC
  have HOK := Lib.hid hok
  have HB1 := Lib.hid hrt.below
  have HL0 := Lib.hid (own_lit_of (enc := pt) w1 w1.heap.size 30 [(0, 0)] (Nat.le_refl _) (by simp))
  have e00 : encs pt [(0, 0)] = [.complex .f64 0 0] := by simp [encs, pt_00]
  rw [e00] at HL0
  clear hrt hok e00 HR
  go_wp2_with fail
  obtain ⟨n1, hn1⟩ : ∃ n1, n1 = a.length + 1 := ⟨_, rfl⟩
  obtain ⟨m1, hm1⟩ : ∃ m1, m1 = b.length + 1 := ⟨_, rfl⟩
  have HN1 := Lib.hid hn1
  have HM1 := Lib.hid hm1
  rw [← hn1]
  clear hn1 hm1
  go_loopg [6, 7] (a.length + b.length) (fun k v6 v7 wr => ∃ (x y : Nat) (pts : List (Nat × Nat)), v6 = .complex .f64 (fl x) (fl y) ∧ x ≤ a.length ∧ y ≤ b.length ∧ pts.length ≤ x + y + 1 ∧ k + (x + y) = a.length + b.length ∧ Hid (wr.ownsRow w1.heap.size 30 1 v7 (encs pt pts).length (encs pt pts)) ∧ Hid (pts ++ wayW a b x y = wayP a b) ∧ Hid (Below w1.heap.size w1 wr))
  case atStart => exact ⟨0, 0, [(0, 0)], by rw [fl_0], by omega, by omega, by simp, by omega, by rw [show encs pt [(0, 0)] = [.complex .f64 0 0] from by simp [encs, pt_00]]; exact HL0, Lib.hid rfl, Lib.hid (below_alloc (Below.refl _ _) _)⟩
  case round =>
    obtain ⟨x, y, pts, rfl, hx, hy, hpl, hk, hrow, heq, hbel⟩ := hrel
    have cv1 := cv_fi x (by omega)
    have cv2 := cv_fi y (by omega)
    by_cases hend : x = a.length ∧ y = b.length
    · have i1 : ((x : Int) == (a.length : Int)) = true := by simp; omega
      have i2 : ((y : Int) == (b.length : Int)) = true := by simp; omega
      have HEND := Lib.hid hend
      clear hend
      go_wp2_with fail
      go_ret
      have hend := HEND.out
      have hp : pts = wayP a b := by
        have h := heq.out
        rwa [hend.1, hend.2, wayW_end, List.append_nil] at h
      have h := hrow.out
      rw [hp, encs_length] at h
      exact ⟨_, rfl, own_weaken h HB1.out.size, below_then HB1.out HB1.out.size hbel.out⟩
    · have hin := stepD_in hx hy hend
      have hgo := wayW_go hx hy hend
      have x0 : (0 : Int) ≤ (x : Int) := by omega
      have y0 : (0 : Int) ≤ (y : Int) := by omega
      by_cases h1 : x < a.length
      · have i1 : ((x : Int) == (a.length : Int)) = false := by simp; omega
        have i2 : (x : Int) < (a.length : Int) := by omega
        by_cases h2 : y < b.length
        · have i3 : (y : Int) < (b.length : Int) := by omega
          have i4 : ((y : Int) == (b.length : Int)) = false := by simp; omega
          obtain ⟨aa, hAa, hca⟩ := (HLA.out.below (below_then HB1.out HB1.out.size hbel.out)).2.2 (by omega)
          obtain ⟨ab, hAb, hcb⟩ := (HLB.out.below (below_then HB1.out HB1.out.size hbel.out)).2.2 (by omega)
          have ka := hca x h1
          have kb := hcb y h2
          obtain ⟨s, hs⟩ : ∃ s, s = a.getD x ByteArray.empty := ⟨_, rfl⟩
          obtain ⟨u, hu⟩ : ∃ u, u = b.getD y ByteArray.empty := ⟨_, rfl⟩
          have e1 : (txs a).getD x [] = tx s := by rw [hs]; simp [txs, List.getD_eq_getElem?_getD, List.getElem?_eq_getElem h1]
          have e2 : (txs b).getD y [] = tx u := by rw [hu]; simp [txs, List.getD_eq_getElem?_getD, List.getElem?_eq_getElem h2]
          rw [← hs] at ka
          rw [← hu] at kb
          have HAa := Lib.hid hAa
          have HAb := Lib.hid hAb
          subst hAa hAb
          clear hca hcb hs hu
          by_cases h3 : tx s = tx u
          · have hsd : stepD a b x y = (1, 1) := by unfold stepD; rw [if_pos ⟨h1, h2, by rw [e1, e2]; exact h3⟩]
            rw [hsd] at hin hgo
            have HIN : Hid (x + 1 ≤ a.length ∧ y + 1 ≤ b.length) := Lib.hid ⟨hin.1, hin.2.1⟩
            have hg1 := hin.1
            have hg2 := hin.2.1
            simp only at hg1 hg2
            have HEQ : Hid ((pts ++ [(x + 1, y + 1)]) ++ wayW a b (x + 1) (y + 1) = wayP a b) := Lib.hid (by
              have h := heq.out
              rw [hgo] at h
              rw [List.append_assoc]
              exact h)
            have hadd := add_11 x y (by omega) (by omega)
            rw [← tx_inj h3] at kb
            clear hin hgo hsd e1 e2 h3 h1 h2 hend
            go_wp2_with fail
            go_quiet (fail)
            have HRW : Hid ((wr.drewN nq).ownsRow w1.heap.size 30 1 u7 (encs pt pts).length (encs pt pts)) := Lib.hid hrow.out
            have HBW := Lib.hid (pw_below_drewN hbel.out nq)
            clear ka kb hbel hrow
            generalize wr.drewN nq = w3 at *
            go_wp2_with (at_builtin; refine print_append (w0 := w3) w1.heap.size rfl (.tmp 91) (.tmp 93) 24 30 (.complex .f64 0 0) 16 rfl Try.underlying24 infoC rfl (by omega) _ (encs pt pts) (.complex .f64 (fl (x + 1)) (fl (y + 1))) rfl rfl rfl HRW.out (Below.refl _ _) HBW.out.size (by rw [encs_length]; omega) ?_; intro v1 w9 hown1 hbel1 hgrow hat1; have HO1 := Lib.hid hown1; have HG1 := Lib.hid hgrow; clear hown1 hbel1 hgrow hat1)
            go_roundg (gk - 2)
            case measure => omega
            case rel =>
              refine ⟨x + 1, y + 1, pts ++ [(x + 1, y + 1)], rfl, HIN.out.1, HIN.out.2, by simp; omega, by omega, ?_, HEQ, Lib.hid ?_⟩
              · have h := HO1.out
                rw [show encs pt (pts ++ [(x + 1, y + 1)]) = encs pt pts ++ [.complex .f64 (fl (x + 1)) (fl (y + 1))] from by rw [encs_append]; rfl]
                exact Lib.hid h
              · have hg := HG1.out
                have hs := HBW.out.size
                exact ⟨hg.os.trans HBW.out.os, hg.tape.trans HBW.out.tape, hg.output.trans HBW.out.output, Nat.le_trans hs hg.size, fun i hi => (hg.block i (Nat.lt_of_lt_of_le hi hs) (fun e => by have := own_base HRW.out i e.symm; omega)).trans (HBW.out.block i hi)⟩
          · have hne : (s.toList == u.toList) = false := by
              rw [ByteArray.toList_eq, ByteArray.toList_eq]
              simpa [tx] using h3
            obtain ⟨x2, hx2⟩ : ∃ x2, x2 = x + 1 := ⟨_, rfl⟩
            obtain ⟨y2, hy2⟩ : ∃ y2, y2 = y + 1 := ⟨_, rfl⟩
            have wx : IntKind.i64.wrap ((x : Int) + 1) = (x2 : Int) := by rw [IntKind.wrap_i64]; omega
            have wy : IntKind.i64.wrap ((y : Int) + 1) = (y2 : Int) := by rw [IntKind.wrap_i64]; omega
            have x20 : (0 : Int) ≤ (x2 : Int) := by omega
            have y20 : (0 : Int) ≤ (y2 : Int) := by omega
            have hn1e := HN1.out
            have hm1e := HM1.out
            have x21 : (x2 : Int) < (n1 : Int) := by omega
            have y21 : (y2 : Int) < (m1 : Int) := by omega
            have x22 : (x : Int) < (n1 : Int) := by omega
            have y22 : (y : Int) < (m1 : Int) := by omega
            have hC := HRT.out.below hbel.out
            obtain ⟨gx, hgx⟩ : ∃ gx, gx = w.heap.size + 1 + a.length - x := ⟨_, rfl⟩
            obtain ⟨gy, hgy⟩ : ∃ gy, gy = w.heap.size + 1 + a.length - (x + 1) := ⟨_, rfl⟩
            have o1 := hC.outer x (by omega)
            have o2 := hC.outer (x + 1) (by omega)
            have q2 := hC.inner (x + 1) y (by omega) (by omega)
            have q3 := hC.inner x (y + 1) (by omega) (by omega)
            rw [← hgx, ← hm1e] at o1
            rw [← hgy, ← hm1e, ← hx2] at o2
            rw [HOK.out (x + 1) y (by omega) (by omega) (by omega), ← hgy] at q2
            rw [HOK.out x (y + 1) (by omega) (by omega) (by omega), ← hgx, ← hy2] at q3
            by_cases h4 : dd a b (x + 1) y ≤ dd a b x (y + 1)
            · have hsd : stepD a b x y = (1, 0) := by unfold stepD; rw [if_neg (fun h => h3 (by rw [← e1, ← e2]; exact h.2.2)), if_pos ⟨h1, .inr h4⟩]
              rw [hsd] at hin hgo
              have HIN : Hid (x + 1 ≤ a.length ∧ y + 0 ≤ b.length) := Lib.hid ⟨hin.1, hin.2.1⟩
              have hg1 := hin.1
              have hg2 := hin.2.1
              simp only at hg1 hg2
              have HEQ : Hid ((pts ++ [(x + 1, y + 0)]) ++ wayW a b (x + 1) (y + 0) = wayP a b) := Lib.hid (by
                have h := heq.out
                rw [hgo] at h
                rw [List.append_assoc]
                exact h)
              have hadd := add_10 x y (by omega) (by omega)
              rw [← hy2] at h4
              generalize dd a b (x + 1) y = v2 at q2 h4
              generalize dd a b x y2 = v3 at q3 h4
              have f1 : (v2 : Int) ≤ (v3 : Int) := by omega
              clear hin hgo hsd e1 e2 h3 h1 h2 hend hx2 hy2 hn1e hm1e hgx hgy hC h4
              go_wp2_with fail
              go_quiet (fail)
              have HRW' : Hid ((wr.drewN nq).ownsRow w1.heap.size 30 1 u7 (encs pt pts).length (encs pt pts)) := Lib.hid hrow.out
              have HBW' := Lib.hid (pw_below_drewN hbel.out nq)
              have D1 : (wr.drewN nq).cell? ⟨w.heap.size, x, none⟩ = some (.slice (some ⟨gx, 0, none⟩) m1 m1) := o1
              have D2 : (wr.drewN nq).cell? ⟨w.heap.size, x2, none⟩ = some (.slice (some ⟨gy, 0, none⟩) m1 m1) := o2
              have D3 : (wr.drewN nq).cell? ⟨gy, y, none⟩ = some (.int .i64 (v2 : Int)) := q2
              have D4 : (wr.drewN nq).cell? ⟨gx, y2, none⟩ = some (.int .i64 (v3 : Int)) := q3
              clear ka kb o1 o2 q2 q3 hbel hrow
              generalize wr.drewN nq = w3 at *
              go_wp2_with fail
              go_quiet (fail)
              have HRW : Hid ((w3.drewN nq).ownsRow w1.heap.size 30 1 u7 (encs pt pts).length (encs pt pts)) := Lib.hid HRW'.out
              have HBW := Lib.hid (pw_below_drewN HBW'.out nq)
              clear D1 D2 D3 D4 HRW' HBW'
              generalize w3.drewN nq = w4 at *
              go_wp2_with (at_builtin; refine print_append (w0 := w4) w1.heap.size rfl (.tmp 91) (.tmp 93) 24 30 (.complex .f64 0 0) 16 rfl Try.underlying24 infoC rfl (by omega) _ (encs pt pts) (.complex .f64 (fl (x + 1)) (fl (y + 0))) rfl rfl rfl HRW.out (Below.refl _ _) HBW.out.size (by rw [encs_length]; omega) ?_; intro v1 w9 hown1 hbel1 hgrow hat1; have HO1 := Lib.hid hown1; have HG1 := Lib.hid hgrow; clear hown1 hbel1 hgrow hat1)
              go_roundg (gk - 1)
              case measure => omega
              case rel =>
                refine ⟨x + 1, y + 0, pts ++ [(x + 1, y + 0)], rfl, HIN.out.1, HIN.out.2, by simp; omega, by omega, ?_, HEQ, Lib.hid ?_⟩
                · have h := HO1.out
                  rw [show encs pt (pts ++ [(x + 1, y + 0)]) = encs pt pts ++ [.complex .f64 (fl (x + 1)) (fl (y + 0))] from by rw [encs_append]; rfl]
                  exact Lib.hid h
                · have hg := HG1.out
                  have hs := HBW.out.size
                  exact ⟨hg.os.trans HBW.out.os, hg.tape.trans HBW.out.tape, hg.output.trans HBW.out.output, Nat.le_trans hs hg.size, fun i hi => (hg.block i (Nat.lt_of_lt_of_le hi hs) (fun e => by have := own_base HRW.out i e.symm; omega)).trans (HBW.out.block i hi)⟩
            · have hsd : stepD a b x y = (0, 1) := by unfold stepD; rw [if_neg (fun h => h3 (by rw [← e1, ← e2]; exact h.2.2)), if_neg (fun h => by rcases h.2 with h | h; omega; exact h4 h)]
              rw [hsd] at hin hgo
              have HIN : Hid (x + 0 ≤ a.length ∧ y + 1 ≤ b.length) := Lib.hid ⟨hin.1, hin.2.1⟩
              have hg1 := hin.1
              have hg2 := hin.2.1
              simp only at hg1 hg2
              have HEQ : Hid ((pts ++ [(x + 0, y + 1)]) ++ wayW a b (x + 0) (y + 1) = wayP a b) := Lib.hid (by
                have h := heq.out
                rw [hgo] at h
                rw [List.append_assoc]
                exact h)
              have hadd := add_01 x y (by omega) (by omega)
              rw [← hy2] at h4
              generalize dd a b (x + 1) y = v2 at q2 h4
              generalize dd a b x y2 = v3 at q3 h4
              have f1 : decide ((v2 : Int) ≤ (v3 : Int)) = false := by simp; omega
              have f2 : decide (v2 ≤ v3) = false := by simp; omega
              clear hin hgo hsd e1 e2 h3 h1 h2 hend hx2 hy2 hn1e hm1e hgx hgy hC h4
              go_wp2_with fail
              go_quiet (fail)
              have HRW' : Hid ((wr.drewN nq).ownsRow w1.heap.size 30 1 u7 (encs pt pts).length (encs pt pts)) := Lib.hid hrow.out
              have HBW' := Lib.hid (pw_below_drewN hbel.out nq)
              have D1 : (wr.drewN nq).cell? ⟨w.heap.size, x, none⟩ = some (.slice (some ⟨gx, 0, none⟩) m1 m1) := o1
              have D2 : (wr.drewN nq).cell? ⟨w.heap.size, x2, none⟩ = some (.slice (some ⟨gy, 0, none⟩) m1 m1) := o2
              have D3 : (wr.drewN nq).cell? ⟨gy, y, none⟩ = some (.int .i64 (v2 : Int)) := q2
              have D4 : (wr.drewN nq).cell? ⟨gx, y2, none⟩ = some (.int .i64 (v3 : Int)) := q3
              clear ka kb o1 o2 q2 q3 hbel hrow
              generalize wr.drewN nq = w3 at *
              go_wp2_with fail
              go_quiet (fail)
              have HRW : Hid ((w3.drewN nq).ownsRow w1.heap.size 30 1 u7 (encs pt pts).length (encs pt pts)) := Lib.hid HRW'.out
              have HBW := Lib.hid (pw_below_drewN HBW'.out nq)
              clear D1 D2 D3 D4 HRW' HBW'
              generalize w3.drewN nq = w4 at *
              go_wp2_with (at_builtin; refine print_append (w0 := w4) w1.heap.size rfl (.tmp 91) (.tmp 93) 24 30 (.complex .f64 0 0) 16 rfl Try.underlying24 infoC rfl (by omega) _ (encs pt pts) (.complex .f64 (fl (x + 0)) (fl (y + 1))) rfl rfl rfl HRW.out (Below.refl _ _) HBW.out.size (by rw [encs_length]; omega) ?_; intro v1 w9 hown1 hbel1 hgrow hat1; have HO1 := Lib.hid hown1; have HG1 := Lib.hid hgrow; clear hown1 hbel1 hgrow hat1)
              go_roundg (gk - 1)
              case measure => omega
              case rel =>
                refine ⟨x + 0, y + 1, pts ++ [(x + 0, y + 1)], rfl, HIN.out.1, HIN.out.2, by simp; omega, by omega, ?_, HEQ, Lib.hid ?_⟩
                · have h := HO1.out
                  rw [show encs pt (pts ++ [(x + 0, y + 1)]) = encs pt pts ++ [.complex .f64 (fl (x + 0)) (fl (y + 1))] from by rw [encs_append]; rfl]
                  exact Lib.hid h
                · have hg := HG1.out
                  have hs := HBW.out.size
                  exact ⟨hg.os.trans HBW.out.os, hg.tape.trans HBW.out.tape, hg.output.trans HBW.out.output, Nat.le_trans hs hg.size, fun i hi => (hg.block i (Nat.lt_of_lt_of_le hi hs) (fun e => by have := own_base HRW.out i e.symm; omega)).trans (HBW.out.block i hi)⟩
        · have i3 : decide ((y : Int) < (b.length : Int)) = false := by simp; omega
          have i5 : decide (y < b.length) = false := by simp; omega
          have i4 : ((y : Int) == (b.length : Int)) = true := by simp; omega
          have hsd : stepD a b x y = (1, 0) := by unfold stepD; rw [if_neg (fun h => h2 h.2.1), if_pos ⟨h1, .inl (by omega)⟩]
          rw [hsd] at hin hgo
          have HIN : Hid (x + 1 ≤ a.length ∧ y + 0 ≤ b.length) := Lib.hid ⟨hin.1, hin.2.1⟩
          have hg1 := hin.1
          have hg2 := hin.2.1
          simp only at hg1 hg2
          have HEQ : Hid ((pts ++ [(x + 1, y + 0)]) ++ wayW a b (x + 1) (y + 0) = wayP a b) := Lib.hid (by
            have h := heq.out
            rw [hgo] at h
            rw [List.append_assoc]
            exact h)
          have hadd := add_10 x y (by omega) (by omega)
          clear hin hgo hsd h1 h2 hend
          go_wp2_with fail
          go_quiet (fail)
          have HRW' : Hid ((wr.drewN nq).ownsRow w1.heap.size 30 1 u7 (encs pt pts).length (encs pt pts)) := Lib.hid hrow.out
          have HBW' := Lib.hid (pw_below_drewN hbel.out nq)
          clear hbel hrow
          generalize wr.drewN nq = w3 at *
          go_wp2_with fail
          go_quiet (fail)
          have HRW : Hid ((w3.drewN nq).ownsRow w1.heap.size 30 1 u7 (encs pt pts).length (encs pt pts)) := Lib.hid HRW'.out
          have HBW := Lib.hid (pw_below_drewN HBW'.out nq)
          clear HRW' HBW'
          generalize w3.drewN nq = w4 at *
          go_wp2_with (at_builtin; refine print_append (w0 := w4) w1.heap.size rfl (.tmp 91) (.tmp 93) 24 30 (.complex .f64 0 0) 16 rfl Try.underlying24 infoC rfl (by omega) _ (encs pt pts) (.complex .f64 (fl (x + 1)) (fl (y + 0))) rfl rfl rfl HRW.out (Below.refl _ _) HBW.out.size (by rw [encs_length]; omega) ?_; intro v1 w9 hown1 hbel1 hgrow hat1; have HO1 := Lib.hid hown1; have HG1 := Lib.hid hgrow; clear hown1 hbel1 hgrow hat1)
          go_roundg (gk - 1)
          case measure => omega
          case rel =>
            refine ⟨x + 1, y + 0, pts ++ [(x + 1, y + 0)], rfl, HIN.out.1, HIN.out.2, by simp; omega, by omega, ?_, HEQ, Lib.hid ?_⟩
            · have h := HO1.out
              rw [show encs pt (pts ++ [(x + 1, y + 0)]) = encs pt pts ++ [.complex .f64 (fl (x + 1)) (fl (y + 0))] from by rw [encs_append]; rfl]
              exact Lib.hid h
            · have hg := HG1.out
              have hs := HBW.out.size
              exact ⟨hg.os.trans HBW.out.os, hg.tape.trans HBW.out.tape, hg.output.trans HBW.out.output, Nat.le_trans hs hg.size, fun i hi => (hg.block i (Nat.lt_of_lt_of_le hi hs) (fun e => by have := own_base HRW.out i e.symm; omega)).trans (HBW.out.block i hi)⟩
      · have i1 : ((x : Int) == (a.length : Int)) = true := by simp; omega
        have i2 : decide ((x : Int) < (a.length : Int)) = false := by simp; omega
        have i5 : decide (x < a.length) = false := by simp; omega
        have i4 : ((y : Int) == (b.length : Int)) = false := by simp; omega
        have hsd : stepD a b x y = (0, 1) := by unfold stepD; rw [if_neg (fun h => h1 h.1), if_neg (fun h => h1 h.1)]
        rw [hsd] at hin hgo
        have HIN : Hid (x + 0 ≤ a.length ∧ y + 1 ≤ b.length) := Lib.hid ⟨hin.1, hin.2.1⟩
        have hg1 := hin.1
        have hg2 := hin.2.1
        simp only at hg1 hg2
        have HEQ : Hid ((pts ++ [(x + 0, y + 1)]) ++ wayW a b (x + 0) (y + 1) = wayP a b) := Lib.hid (by
          have h := heq.out
          rw [hgo] at h
          rw [List.append_assoc]
          exact h)
        have hadd := add_01 x y (by omega) (by omega)
        clear hin hgo hsd h1 hend
        go_wp2_with fail
        go_quiet (fail)
        have HRW' : Hid ((wr.drewN nq).ownsRow w1.heap.size 30 1 u7 (encs pt pts).length (encs pt pts)) := Lib.hid hrow.out
        have HBW' := Lib.hid (pw_below_drewN hbel.out nq)
        clear hbel hrow
        generalize wr.drewN nq = w3 at *
        go_wp2_with fail
        go_quiet (fail)
        have HRW : Hid ((w3.drewN nq).ownsRow w1.heap.size 30 1 u7 (encs pt pts).length (encs pt pts)) := Lib.hid HRW'.out
        have HBW := Lib.hid (pw_below_drewN HBW'.out nq)
        clear HRW' HBW'
        generalize w3.drewN nq = w4 at *
        go_wp2_with (at_builtin; refine print_append (w0 := w4) w1.heap.size rfl (.tmp 91) (.tmp 93) 24 30 (.complex .f64 0 0) 16 rfl Try.underlying24 infoC rfl (by omega) _ (encs pt pts) (.complex .f64 (fl (x + 0)) (fl (y + 1))) rfl rfl rfl HRW.out (Below.refl _ _) HBW.out.size (by rw [encs_length]; omega) ?_; intro v1 w9 hown1 hbel1 hgrow hat1; have HO1 := Lib.hid hown1; have HG1 := Lib.hid hgrow; clear hown1 hbel1 hgrow hat1)
        go_roundg (gk - 1)
        case measure => omega
        case rel =>
          refine ⟨x + 0, y + 1, pts ++ [(x + 0, y + 1)], rfl, HIN.out.1, HIN.out.2, by simp; omega, by omega, ?_, HEQ, Lib.hid ?_⟩
          · have h := HO1.out
            rw [show encs pt (pts ++ [(x + 0, y + 1)]) = encs pt pts ++ [.complex .f64 (fl (x + 0)) (fl (y + 1))] from by rw [encs_append]; rfl]
            exact Lib.hid h
          · have hg := HG1.out
            have hs := HBW.out.size
            exact ⟨hg.os.trans HBW.out.os, hg.tape.trans HBW.out.tape, hg.output.trans HBW.out.output, Nat.le_trans hs hg.size, fun i hi => (hg.block i (Nat.lt_of_lt_of_le hi hs) (fun e => by have := own_base HRW.out i e.symm; omega)).trans (HBW.out.block i hi)⟩
end Go.Proofs.Ytmnpcignolofaaa
