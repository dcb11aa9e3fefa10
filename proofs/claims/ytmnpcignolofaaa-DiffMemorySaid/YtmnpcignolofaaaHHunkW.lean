/- diff.Hunks: walked. -/
import Derived.Test.YtmnpcignolofaaaHHunk
import Derived.Deep.RegionLaw
namespace Go.Proofs.Ytmnpcignolofaaa
set_option linter.unusedVariables false
set_option linter.unusedSimpArgs false
open Go.RowKit Go.Proofs.YtmnpcignolofaaaW.PrintWords Go.Proofs.YtmnpcignolofaaaW.PrintMore
def openAt (w : List Pn) (f i : Nat) : Option Pn := if f = i then none else some (w.getD f (0, 0))
theorem openAt_self (w : List Pn) (i : Nat) : openAt w i i = none := if_pos rfl
theorem openAt_next (w : List Pn) (f i : Nat) (h : f ≤ i) : some ((openAt w f i).getD (w.getD i (0, 0))) = openAt w f (i + 1) := by
  unfold openAt
  rw [if_neg (show ¬ f = i + 1 by omega)]
  by_cases e : f = i
  · rw [if_pos e, e]; rfl
  · rw [if_neg e]; rfl
set_option maxRecDepth 20000 in
set_option maxHeartbeats 40000000 in
theorem diffHunks_calls (w : World) (A : Option Addr) (ca : Nat) (a : List ByteArray) (B : Option Addr) (cb : Nat) (b : List ByteArray) (hla : ReadsOf Value.string ByteArray.empty w A a.length a) (hlb : ReadsOf Value.string ByteArray.empty w B b.length b)
    (hna : a.length ≤ 1000) (hnb : b.length ≤ 1000) (hsa : ∀ s ∈ a, s.size ≤ maxLen) (hsb : ∀ s ∈ b, s.size ≤ maxLen) :
    Calls Try.prog 16 #[.slice A a.length ca, .slice B b.length cb] w fun e w' => ∃ v, e = .returned (.tuple #[v, .int .i64 0]) ∧ w'.ownsRow w.heap.size 60 2 v (hks a b).length (hc (hks a b)) ∧ Below w.heap.size w w' := by
  have HW := Lib.hid (diffWay_calls w A ca a B cb b hla hlb hna hnb hsa hsb)
  have h0 := hkAt_0 a b
  obtain ⟨P, hP⟩ : ∃ P, P = wayP a b := ⟨_, rfl⟩
  have hPl := wayP_len a b
  have HT := Lib.hid (two_at a b)
  rw [← hP] at HW HT hPl h0
  obtain ⟨H, hH⟩ : ∃ H, H = hks a b := ⟨_, rfl⟩
  rw [← hH] at h0 ⊢
  have H0 := Lib.hid h0
  obtain ⟨m, hm⟩ : ∃ m, m = P.length := ⟨_, rfl⟩
  have HM := Lib.hid hm
  rw [← hm] at hPl
  rw [← hm] at HW
  clear hla hlb hsa hsb hP hH h0 hm
  go_enter Try.func16, Try.ntmps16
  go_wp2_with fail
  refine HW.out.mono ?_
  rintro e w1 ⟨v, rfl, hv, hb⟩
  obtain ⟨W0, cw, rfl⟩ := own_slice hv
  have HR := Lib.hid (own_reads_of' (d := (0, 0)) hv)
  have HB := Lib.hid hb
  obtain ⟨ax, rfl, _⟩ := HR.out.2.2 (by omega)
  clear hv hb HW
  go_wp2_with fail
  go_loopw [9, 8] (fun v9 v8 wr => ∃ (i : Nat) (hs : List (Pn × Pn)), v9 = .int .i64 i ∧ i ≤ m ∧ Hid (wr.ownsRow w1.heap.size 60 2 v8 hs.length (hc hs)) ∧ Hid (hs ++ (if i = m then [] else hkAt P none i) = H) ∧ hs.length ≤ i ∧ Hid (Below w1.heap.size w1 wr)) (fun v9 _ _ => m - (intOf v9).toNat)
  case atStart => exact ⟨0, [], rfl, by omega, Lib.hid (own_nil _ _ _ _), Lib.hid (by rw [if_neg (by omega), H0.out]; rfl), Nat.le_refl _, Lib.hid (Below.refl _ _)⟩
  case round =>
    obtain ⟨i, hs, rfl, hi, hrow, heq, hsl, hbel⟩ := hrel
    have hP1 := hPl.1
    by_cases hlt : i + 1 < m
    · have i1 : ((i + 1 : Nat) : Int) < (m : Int) := by omega
      have HE0 : Hid (hs ++ hkAt P (openAt P i i) i = H) := Lib.hid (by have h := heq.out; rwa [if_neg (by omega), ← openAt_self P i] at h)
      generalize wr = w2 at *
      clear heq
      go_wp2_with fail
      go_loopw [9] (fun v9 wr => ∃ j : Nat, v9 = .int .i64 j ∧ i ≤ j ∧ j < m ∧ Hid (hs ++ hkAt P (openAt P i j) j = H) ∧ Hid (∃ k, wr = w2.drewN k)) (fun v9 _ => m - (intOf v9).toNat)
      case atStart => exact ⟨i, rfl, Nat.le_refl _, by omega, HE0, Lib.hid ⟨0, rfl⟩⟩
      case round =>
        obtain ⟨j, rfl, hij, hjm, heq, hw⟩ := hrel
        by_cases hjl : j + 1 < m
        · have HW2 : Hid (Below w1.heap.size w1 wr) := Lib.hid (by obtain ⟨k, rfl⟩ := hw.out; exact pw_below_drewN hbel.out k)
          obtain ⟨x, y, dx, dy, t⟩ := HT.out j (by rw [← HM.out]; exact hjl)
          have hgo := hkAt_go (openAt P i j) (by rw [← HM.out]; exact hjl) t
          obtain ⟨ax', hAx, hcx⟩ := (HR.out.below HW2.out).2.2 (by omega)
          obtain rfl := Option.some.inj hAx
          have k1 : wr.cell? (ax.add j) = some (.complex .f64 (fl x) (fl y)) := by have h := hcx j hjm; rw [t.p] at h; exact h
          obtain ⟨j2, hj2⟩ : ∃ q, q = j + 1 := ⟨_, rfl⟩
          have k2 : wr.cell? (ax.add j2) = some (.complex .f64 (fl (x + dx)) (fl (y + dy))) := by have h := hcx (j + 1) hjl; rw [t.q, ← hj2] at h; exact h
          have wj : IntKind.i64.wrap ((j : Int) + 1) = (j2 : Int) := by rw [IntKind.wrap_i64]; omega
          have j0 : (0 : Int) ≤ (j : Int) := by omega
          have j1 : (j : Int) < (m : Int) := by omega
          have j20 : (0 : Int) ≤ (j2 : Int) := by omega
          have j21 : (j2 : Int) < (m : Int) := by omega
          have HJ2 := Lib.hid hj2
          have hsub := cx_sub x y dx dy (by have := t.hx; omega) (by have := t.hy; omega) t.d1 t.d2
          have hd : (dx = 1 ∧ dy = 1) ∨ (dx = 1 ∧ dy = 0) ∨ (dx = 0 ∧ dy = 1) := by have := t.one; have := t.d1; have := t.d2; omega
          have HE := heq.out
          rw [hgo] at HE
          generalize fl (x + dx) = X1 at k2 hsub
          generalize fl (y + dy) = Y1 at k2 hsub
          clear hgo t hcx hj2 heq HW2 hAx
          rcases hd with ⟨rfl, rfl⟩ | ⟨rfl, rfl⟩ | ⟨rfl, rfl⟩
          · rw [fl_1] at hsub
            have nn := n11_11
            have gd := eq_guardC .neq (.tmp 43) (.const (.complex .f64 4607182418800017408 4607182418800017408)) 4607182418800017408 4607182418800017408 4607182418800017408 4607182418800017408
            have HX : Hid (hs ++ (match openAt P i j with | none => [] | some f => [(f, P.getD j (0, 0))]) ++ (if j + 1 = m then [] else hkAt P none (j + 1)) = H) := Lib.hid (by
              rw [if_pos ⟨rfl, rfl⟩] at HE
              rw [if_neg (by omega), ← HE, List.append_assoc]
              cases openAt P i j <;> rfl)
            clear HE
            go_wp2_with fail
            go_quiet (fail)
            have hw' : Hid (∃ k, wr.drewN nq = w2.drewN k) := Lib.hid (by obtain ⟨k, rfl⟩ := hw.out; exact ⟨k + nq, World.drewN_drewN _ _ _⟩)
            clear k1 k2 hw
            generalize wr.drewN nq = wr at *
            have hw := hw'
            have HRW : Hid (wr.ownsRow w1.heap.size 60 2 u8 hs.length (hc hs)) := Lib.hid (by obtain ⟨k, rfl⟩ := hw.out; exact hrow.out)
            have HBW : Hid (Below w1.heap.size w1 wr) := Lib.hid (by obtain ⟨k, rfl⟩ := hw.out; exact pw_below_drewN hbel.out k)
            by_cases hgt : i < j
            · have g1 : (j : Int) > (i : Int) := by omega
              have HX2 : Hid ((hs ++ [(P.getD i (0, 0), P.getD j (0, 0))]) ++ (if j + 1 = m then [] else hkAt P none (j + 1)) = H) := Lib.hid (by
                have h := HX.out
                rwa [show openAt P i j = some (P.getD i (0, 0)) from if_neg (by omega)] at h)
              obtain ⟨ax', hAx, hcx⟩ := (HR.out.below HBW.out).2.2 (by omega)
              obtain rfl := Option.some.inj hAx
              have k1 := hcx i (by omega)
              have k2 := hcx j (by omega)
              have HX3 := HX2.out
              obtain ⟨⟨p1, p2⟩, hp⟩ : ∃ p, p = P.getD i (0, 0) := ⟨_, rfl⟩
              obtain ⟨⟨q1, q2⟩, hq⟩ : ∃ p, p = P.getD j (0, 0) := ⟨_, rfl⟩
              rw [← hp] at k1
              rw [← hq] at k2
              rw [← hp, ← hq] at HX3
              have HX3 := Lib.hid HX3
              change wr.cell? _ = some (Value.complex .f64 (fl p1) (fl p2)) at k1
              change wr.cell? _ = some (Value.complex .f64 (fl q1) (fl q2)) at k2
              have i0 : (0 : Int) ≤ (i : Int) := by omega
              have j0 : (0 : Int) ≤ (j : Int) := by omega
              have i1 : (i : Int) < (m : Int) := by omega
              have j1 : (j : Int) < (m : Int) := by omega
              clear hcx HX hAx HX2 hp hq
              go_wp2_with fail
              have HRW' : Hid (wr.drew.ownsRow w1.heap.size 60 2 u8 hs.length (hc hs)) := Lib.hid HRW.out
              have HBW' : Hid (Below w1.heap.size w1 wr.drew) := Lib.hid (below_drew HBW.out)
              clear HRW HBW hw
              go_region_law (refine step_append_cells (w0 := w1) (W := wr.drew) w1.heap.size (by rfl) (.tmp 51) (.tmp 61) 35 60 (.agg #[.complex .f64 0 0, .complex .f64 0 0]) 2 32 (by rfl) Try.underlying35 infoH rfl (by omega) (by omega) u8 hs.length (hc hs) [.complex .f64 (fl p1) (fl p2), .complex .f64 (fl q1) (fl q2)] (by rfl) (by rfl) rfl (by intro u hu; simp at hu; rcases hu with rfl | rfl <;> rfl) HRW'.out HBW'.out HBW'.out.size (by omega) ?_; intro v1 w9 hown1 hbel1 hgrow hat1; have HO1 := Lib.hid hown1; have HB1 := Lib.hid hbel1; clear hown1 hbel1 hgrow hat1)
              all_goals
                have hj2 := HJ2.out
                go_wp2_with fail
                go_roundw
                case rel => exact ⟨j + 1, hs ++ [((p1, p2), (q1, q2))], by go_num, by omega, Lib.hid (by have h := HO1.out; rw [List.length_append, hc_append]; exact h), HX3, by simp; omega, HB1⟩
                case measure => simp [intOf]; omega
            · obtain rfl : j = i := by omega
              have g1 : decide ((j : Int) > (j : Int)) = false := by simp
              have HX2 : Hid (hs ++ (if j + 1 = m then [] else hkAt P none (j + 1)) = H) := Lib.hid (by
                have h := HX.out
                rwa [openAt_self, List.append_nil] at h)
              clear HX
              go_wp2_with fail
              have hj2 := HJ2.out
              go_roundw
              case rel => exact ⟨j + 1, hs, by go_num, by omega, HRW, HX2, by omega, HBW⟩
              case measure => simp [intOf]; omega

          · rw [fl_1, fl_0] at hsub
            have nn := n10_11
            have gd := eq_guardC .neq (.tmp 43) (.const (.complex .f64 4607182418800017408 4607182418800017408)) 4607182418800017408 0 4607182418800017408 4607182418800017408
            have HN : Hid (hs ++ hkAt P (openAt P i (j + 1)) (j + 1) = H) := Lib.hid (by
              rw [if_neg (by omega), openAt_next P i j hij] at HE
              exact HE)
            clear HE
            go_wp2_with fail
            go_quiet (fail)
            have hw' : Hid (∃ k, wr.drewN nq = w2.drewN k) := Lib.hid (by obtain ⟨k, rfl⟩ := hw.out; exact ⟨k + nq, World.drewN_drewN _ _ _⟩)
            clear k1 k2 hw
            generalize wr.drewN nq = wr at *
            have hj2 := HJ2.out
            go_wp2_with fail
            go_roundw
            case rel => exact ⟨j + 1, by go_num, by omega, by omega, HN, hw'⟩
            case measure => simp [intOf]; omega

          · rw [fl_1, fl_0] at hsub
            have nn := n01_11
            have gd := eq_guardC .neq (.tmp 43) (.const (.complex .f64 4607182418800017408 4607182418800017408)) 0 4607182418800017408 4607182418800017408 4607182418800017408
            have HN : Hid (hs ++ hkAt P (openAt P i (j + 1)) (j + 1) = H) := Lib.hid (by
              rw [if_neg (by omega), openAt_next P i j hij] at HE
              exact HE)
            clear HE
            go_wp2_with fail
            go_quiet (fail)
            have hw' : Hid (∃ k, wr.drewN nq = w2.drewN k) := Lib.hid (by obtain ⟨k, rfl⟩ := hw.out; exact ⟨k + nq, World.drewN_drewN _ _ _⟩)
            clear k1 k2 hw
            generalize wr.drewN nq = wr at *
            have hj2 := HJ2.out
            go_wp2_with fail
            go_roundw
            case rel => exact ⟨j + 1, by go_num, by omega, by omega, HN, hw'⟩
            case measure => simp [intOf]; omega

        · have hjm2 : j + 1 = m := by omega
          have HX : Hid (hs ++ (match openAt P i j with | none => [] | some f => [(f, P.getD j (0, 0))]) ++ (if j + 1 = m then [] else hkAt P none (j + 1)) = H) := Lib.hid (by
            have h := heq.out
            rw [hkAt_end _ (by rw [← HM.out]; exact hjm2.symm)] at h
            rw [if_pos hjm2, List.append_nil]
            exact h)
          obtain ⟨j2, hj2⟩ : ∃ q, q = j + 1 := ⟨_, rfl⟩
          have wj : IntKind.i64.wrap ((j : Int) + 1) = (j2 : Int) := by rw [IntKind.wrap_i64]; omega
          have g0 : decide ((j2 : Int) < (m : Int)) = false := by simp; omega
          have HJ2 := Lib.hid hj2
          clear heq
          go_wp2_with fail
          go_quiet (fail)
          have hw' : Hid (∃ k, wr.drewN nq = w2.drewN k) := Lib.hid (by obtain ⟨k, rfl⟩ := hw.out; exact ⟨k + nq, World.drewN_drewN _ _ _⟩)
          clear hw
          generalize wr.drewN nq = wr at *
          have hw := hw'
          have HRW : Hid (wr.ownsRow w1.heap.size 60 2 u8 hs.length (hc hs)) := Lib.hid (by obtain ⟨k, rfl⟩ := hw.out; exact hrow.out)
          have HBW : Hid (Below w1.heap.size w1 wr) := Lib.hid (by obtain ⟨k, rfl⟩ := hw.out; exact pw_below_drewN hbel.out k)
          by_cases hgt : i < j
          · have g1 : (j : Int) > (i : Int) := by omega
            have HX2 : Hid ((hs ++ [(P.getD i (0, 0), P.getD j (0, 0))]) ++ (if j + 1 = m then [] else hkAt P none (j + 1)) = H) := Lib.hid (by
              have h := HX.out
              rwa [show openAt P i j = some (P.getD i (0, 0)) from if_neg (by omega)] at h)
            obtain ⟨ax', hAx, hcx⟩ := (HR.out.below HBW.out).2.2 (by omega)
            obtain rfl := Option.some.inj hAx
            have k1 := hcx i (by omega)
            have k2 := hcx j (by omega)
            have HX3 := HX2.out
            obtain ⟨⟨p1, p2⟩, hp⟩ : ∃ p, p = P.getD i (0, 0) := ⟨_, rfl⟩
            obtain ⟨⟨q1, q2⟩, hq⟩ : ∃ p, p = P.getD j (0, 0) := ⟨_, rfl⟩
            rw [← hp] at k1
            rw [← hq] at k2
            rw [← hp, ← hq] at HX3
            have HX3 := Lib.hid HX3
            change wr.cell? _ = some (Value.complex .f64 (fl p1) (fl p2)) at k1
            change wr.cell? _ = some (Value.complex .f64 (fl q1) (fl q2)) at k2
            have i0 : (0 : Int) ≤ (i : Int) := by omega
            have j0 : (0 : Int) ≤ (j : Int) := by omega
            have i1 : (i : Int) < (m : Int) := by omega
            have j1 : (j : Int) < (m : Int) := by omega
            clear hcx HX hAx HX2 hp hq
            go_wp2_with fail
            have HRW' : Hid (wr.drew.ownsRow w1.heap.size 60 2 u8 hs.length (hc hs)) := Lib.hid HRW.out
            have HBW' : Hid (Below w1.heap.size w1 wr.drew) := Lib.hid (below_drew HBW.out)
            clear HRW HBW hw
            go_region_law (refine step_append_cells (w0 := w1) (W := wr.drew) w1.heap.size (by rfl) (.tmp 51) (.tmp 61) 35 60 (.agg #[.complex .f64 0 0, .complex .f64 0 0]) 2 32 (by rfl) Try.underlying35 infoH rfl (by omega) (by omega) u8 hs.length (hc hs) [.complex .f64 (fl p1) (fl p2), .complex .f64 (fl q1) (fl q2)] (by rfl) (by rfl) rfl (by intro u hu; simp at hu; rcases hu with rfl | rfl <;> rfl) HRW'.out HBW'.out HBW'.out.size (by omega) ?_; intro v1 w9 hown1 hbel1 hgrow hat1; have HO1 := Lib.hid hown1; have HB1 := Lib.hid hbel1; clear hown1 hbel1 hgrow hat1)
            all_goals
              have hj2 := HJ2.out
              go_wp2_with fail
              go_roundw
              case rel => exact ⟨j + 1, hs ++ [((p1, p2), (q1, q2))], by go_num, by omega, Lib.hid (by have h := HO1.out; rw [List.length_append, hc_append]; exact h), HX3, by simp; omega, HB1⟩
              case measure => simp [intOf]; omega
          · obtain rfl : j = i := by omega
            have g1 : decide ((j : Int) > (j : Int)) = false := by simp
            have HX2 : Hid (hs ++ (if j + 1 = m then [] else hkAt P none (j + 1)) = H) := Lib.hid (by
              have h := HX.out
              rwa [openAt_self, List.append_nil] at h)
            clear HX
            go_wp2_with fail
            have hj2 := HJ2.out
            go_roundw
            case rel => exact ⟨j + 1, hs, by go_num, by omega, HRW, HX2, by omega, HBW⟩
            case measure => simp [intOf]; omega

    · have him : i = m ∨ i + 1 = m := by omega
      have i1 : decide (((i : Int) + 1) < (m : Int)) = false := by simp; omega
      have HFIN : Hid (hs = H) := Lib.hid (by
        have h := heq.out
        by_cases e : i = m
        · rwa [if_pos e, List.append_nil] at h
        · rwa [if_neg e, hkAt_end _ (by rw [← HM.out]; omega), List.append_nil] at h)
      clear heq
      go_wp2_with fail
      go_ret2
      have hf := HFIN.out
      subst hf
      exact ⟨_, rfl, own_weaken hrow.out HB.out.size, below_then HB.out HB.out.size hbel.out⟩
end Go.Proofs.Ytmnpcignolofaaa
