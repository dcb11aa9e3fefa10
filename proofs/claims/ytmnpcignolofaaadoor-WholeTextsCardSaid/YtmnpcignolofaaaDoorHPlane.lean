/- diff's plane: at, least. -/
import Derived.Test.YtmnpcignolofaaaDoorHNumb
import Derived.Deep.QuietTactic
import Derived.BigQuiet
import Derived.StillTailTactics
namespace Go.Proofs.YtmnpcignolofaaaDoor
set_option linter.unusedVariables false
set_option linter.unusedSimpArgs false
open Go.RowKit Go.Proofs.YtmnpcignolofaaaDoorW.PrintWords Go.Proofs.YtmnpcignolofaaaDoorW.PrintMore
structure Pl (base g R : Nat) (Aa : Option Addr) (ca : Nat) (Ab : Option Addr) (cb : Nat) (al bl T : List Int) (W : World) : Prop where
  blk : W.heap[g]? = some (.cells #[.slice Aa al.length ca, .slice Ab bl.length cb, .slice (some ⟨R, 0, none⟩) T.length T.length] 106 (0, 0))
  a : W.ownsRow base 3 1 (.slice Aa al.length ca) al.length (nums .i64 al)
  b : W.ownsRow base 3 1 (.slice Ab bl.length cb) bl.length (nums .i64 bl)
  r : W.ownsRow base 21 1 (.slice (some ⟨R, 0, none⟩) T.length T.length) T.length (nums .i32 T)
  len : T.length = (al.length + 1) * (bl.length + 1)
  bg : base ≤ g
theorem Pl.drewN {base g R : Nat} {Aa : Option Addr} {ca : Nat} {Ab : Option Addr} {cb : Nat} {al bl T : List Int} {W : World} (h : Pl base g R Aa ca Ab cb al bl T W) (n : Nat) : Pl base g R Aa ca Ab cb al bl T (W.drewN n) :=
  ⟨h.blk, h.a, h.b, h.r, h.len, h.bg⟩
theorem Pl.cell {base g R : Nat} {Aa : Option Addr} {ca : Nat} {Ab : Option Addr} {cb : Nat} {al bl T : List Int} {W : World} (h : Pl base g R Aa ca Ab cb al bl T W) (i : Nat) (hi : i < T.length) :
    W.cell? ⟨R, i, none⟩ = some (.int .i32 (T.getD i 0)) ∧ W.frozen? ⟨R, i, none⟩ = false := by
  have hat := own_at h.r (i : Int) (by omega) (by omega)
  rw [Int.toNat_natCast] at hat
  refine ⟨?_, hat.2⟩
  rw [hat.1]
  simp [Go.Proofs.YtmnpcignolofaaaDoorW.PrintWords.rd]
theorem pl_at (n m x y : Nat) (hx : x ≤ n) (hy : y ≤ m) : x * (m + 1) + y < (n + 1) * (m + 1) := by
  have h1 : x * (m + 1) ≤ n * (m + 1) := Nat.mul_le_mul_right _ hx
  rw [Nat.add_mul, Nat.one_mul]
  omega
set_option maxRecDepth 8000 in
set_option maxHeartbeats 2000000 in
theorem at_calls (base g R : Nat) (Aa : Option Addr) (ca : Nat) (Ab : Option Addr) (cb : Nat) (al bl T : List Int) (W : World) (h : Pl base g R Aa ca Ab cb al bl T W) (ha : al.length ≤ 1000) (hb : bl.length ≤ 1000) (x y : Nat) (hx : x ≤ al.length) (hy : y ≤ bl.length) (X Y : Int) (hX : X = (x : Int)) (hY : Y = (y : Int)) :
    Calls Tryd.prog 38 #[.pointer (some ⟨g, 0, none⟩), .int .i64 X, .int .i64 Y] W fun e w' => e = .returned (.pointer (some ⟨R, x * (bl.length + 1) + y, none⟩)) ∧ ∃ k, w' = W.drewN k := by
  subst hX hY
  have c1 : W.cell? ⟨g, 1, none⟩ = some (.slice Ab bl.length cb) := blk_cell h.blk 1
  have c2 : W.cell? ⟨g, 2, none⟩ = some (.slice (some ⟨R, 0, none⟩) T.length T.length) := blk_cell h.blk 2
  have hlt := pl_at al.length bl.length x y hx hy
  rw [← h.len] at hlt
  have hTl : T.length ≤ 1002001 := by rw [h.len]; exact Nat.le_trans (Nat.mul_le_mul (show al.length + 1 ≤ 1001 by omega) (show bl.length + 1 ≤ 1001 by omega)) (by omega)
  obtain ⟨m1, hm1⟩ : ∃ m1, m1 = bl.length + 1 := ⟨_, rfl⟩
  rw [← hm1] at hlt ⊢
  obtain ⟨p, hp⟩ : ∃ p, p = x * m1 := ⟨_, rfl⟩
  rw [← hp] at hlt ⊢
  have hpI : (x : Int) * (m1 : Int) = (p : Int) := by rw [hp]; simp
  obtain ⟨q, hq⟩ : ∃ q, q = p + y := ⟨_, rfl⟩
  rw [← hq] at hlt ⊢
  have hw0 : IntKind.i64.wrap ((bl.length : Int) + 1) = (m1 : Int) := by rw [IntKind.wrap_i64]; omega
  have hw1 : IntKind.i64.wrap ((x : Int) * (m1 : Int)) = (p : Int) := by rw [hpI, IntKind.wrap_i64]; omega
  have hqI : (p : Int) + (y : Int) = (q : Int) := by omega
  have hw2 : IntKind.i64.wrap ((p : Int) + (y : Int)) = (q : Int) := by rw [hqI, IntKind.wrap_i64]; omega
  have i0 : (0 : Int) ≤ (q : Int) := by omega
  have i1 : (q : Int) < (T.length : Int) := by omega
  have hbI : (bl.length : Int) ≤ 1000 := by omega
  have HQ := Lib.hid hq
  clear h hp hlt hTl hx hy ha hb hq hqI hpI hm1
  go_enter Tryd.func38, Tryd.ntmps38
  go_wp2_with fail
  go_quiet (fail)
  go_wp2_with fail
  go_ret
  exact ⟨by simp, nq, rfl⟩
def leastI (al bl T : List Int) (x y : Nat) : Int :=
  if x = al.length then ((bl.length - y : Nat) : Int) else if y = bl.length then ((al.length - x : Nat) : Int) else
    if al.getD x 0 = bl.getD y 0 then T.getD ((x + 1) * (bl.length + 1) + (y + 1)) 0 else 1 + min (T.getD ((x + 1) * (bl.length + 1) + y) 0) (T.getD (x * (bl.length + 1) + (y + 1)) 0)
theorem row_cell {W : World} {base : Nat} {A : Option Addr} {c : Nat} {l : List Int} (h : W.ownsRow base 3 1 (.slice A l.length c) l.length (nums .i64 l)) (i : Nat) (hi : i < l.length) : ∃ ad, A = some ad ∧ W.cell? (ad.add i) = some (.int .i64 (l.getD i 0)) := by
  obtain ⟨ad, hA, hc⟩ := (own_reads' h).2.2 (by omega)
  exact ⟨ad, hA, hc i hi⟩
set_option maxRecDepth 8000 in
set_option maxHeartbeats 4000000 in
theorem least_calls (base g R : Nat) (Aa : Option Addr) (ca : Nat) (Ab : Option Addr) (cb : Nat) (al bl T : List Int) (W : World) (h : Pl base g R Aa ca Ab cb al bl T W) (ha : al.length ≤ 1000) (hb : bl.length ≤ 1000) (hT : ∀ i, i < T.length → 0 ≤ T.getD i 0 ∧ T.getD i 0 ≤ 5000) (x y : Nat) (hx : x ≤ al.length) (hy : y ≤ bl.length) :
    Calls Tryd.prog 56 #[.pointer (some ⟨g, 0, none⟩), .int .i64 x, .int .i64 y] W fun e w' => e = .returned (.int .i32 (leastI al bl T x y)) ∧ ∃ k, w' = W.drewN k := by
  have c0 : W.cell? ⟨g, 0, none⟩ = some (.slice Aa al.length ca) := blk_cell h.blk 0
  have c1 : W.cell? ⟨g, 1, none⟩ = some (.slice Ab bl.length cb) := blk_cell h.blk 1
  have HP := Lib.hid h
  have HT := Lib.hid hT
  clear h hT
  by_cases h1 : x = al.length
  · have e : leastI al bl T x y = ((bl.length - y : Nat) : Int) := by unfold leastI; rw [if_pos h1]
    rw [e]
    have i1 : ((x : Int) == (al.length : Int)) = true := by simp; omega
    have i2 : (bl.length : Int) - (y : Int) = ((bl.length - y : Nat) : Int) := by omega
    have i3 : bl.length - y ≤ 1000 := by omega
    clear e h1
    go_enter Tryd.func56, Tryd.ntmps56
    go_wp2_with fail
    go_ret
    refine ⟨?_, 0, rfl⟩
    rw [← i2]
    simp
  · have i1 : ((x : Int) == (al.length : Int)) = false := by simp; omega
    by_cases h2 : y = bl.length
    · have e : leastI al bl T x y = ((al.length - x : Nat) : Int) := by unfold leastI; rw [if_neg h1, if_pos h2]
      rw [e]
      have j1 : ((y : Int) == (bl.length : Int)) = true := by simp; omega
      have i2 : (al.length : Int) - (x : Int) = ((al.length - x : Nat) : Int) := by omega
      clear e h1 h2
      go_enter Tryd.func56, Tryd.ntmps56
      go_wp2_with fail
      go_ret
      refine ⟨?_, 0, rfl⟩
      rw [← i2]
      simp
    · have j1 : ((y : Int) == (bl.length : Int)) = false := by simp; omega
      obtain ⟨aa, hAa, ka⟩ := row_cell HP.out.a x (by omega)
      obtain ⟨ab, hAb, kb⟩ := row_cell HP.out.b y (by omega)
      subst hAa hAb
      have x0 : (0 : Int) ≤ (x : Int) := by omega
      have x1 : (x : Int) < (al.length : Int) := by omega
      have y0 : (0 : Int) ≤ (y : Int) := by omega
      have y1 : (y : Int) < (bl.length : Int) := by omega
      by_cases h3 : al.getD x 0 = bl.getD y 0
      · have e : leastI al bl T x y = T.getD ((x + 1) * (bl.length + 1) + (y + 1)) 0 := by unfold leastI; rw [if_neg h1, if_neg h2, if_pos h3]
        rw [e]
        rw [← h3] at kb
        have heq : (al.getD x 0 == al.getD x 0) = true := by simp
        obtain ⟨q, hq⟩ : ∃ q, q = (x + 1) * (bl.length + 1) + (y + 1) := ⟨_, rfl⟩
        rw [← hq]
        have hql : q < T.length := by rw [hq, HP.out.len]; exact pl_at _ _ _ _ (by omega) (by omega)
        have kc := (HP.out.cell q hql).1
        have HQ := Lib.hid hq
        generalize al.getD x 0 = u at ka kb heq
        generalize T.getD q 0 = tq at kc ⊢
        clear e h1 h2 h3 hq
        go_enter Tryd.func56, Tryd.ntmps56
        go_wp2_with fail
        go_quiet (fail)
        go_wp2_with fail
        refine (at_calls base g R _ ca _ cb al bl T _ (HP.out.drewN nq) ha hb (x + 1) (y + 1) (by omega) (by omega) _ _ (by omega) (by omega)).mono ?_
        rintro e w2 ⟨rfl, k2, rfl⟩
        rw [← HQ.out]
        go_wp2_with fail
        go_ret
        exact ⟨rfl, nq + k2, rfl⟩
      · have heq : (al.getD x 0 == bl.getD y 0) = false := by simpa using h3
        obtain ⟨q1, hq1⟩ : ∃ q, q = (x + 1) * (bl.length + 1) + y := ⟨_, rfl⟩
        obtain ⟨q2, hq2⟩ : ∃ q, q = x * (bl.length + 1) + (y + 1) := ⟨_, rfl⟩
        have e : leastI al bl T x y = 1 + min (T.getD q1 0) (T.getD q2 0) := by unfold leastI; rw [if_neg h1, if_neg h2, if_neg h3, ← hq1, ← hq2]
        rw [e]
        have hl1 : q1 < T.length := by rw [hq1, HP.out.len]; exact pl_at _ _ _ _ (by omega) (by omega)
        have hl2 : q2 < T.length := by rw [hq2, HP.out.len]; exact pl_at _ _ _ _ (by omega) (by omega)
        have kc1 := (HP.out.cell q1 hl1).1
        have kc2 := (HP.out.cell q2 hl2).1
        have hb1 := HT.out q1 hl1
        have hb2 := HT.out q2 hl2
        have AT1 : Hid (∀ (X Y : Int), X = ((x + 1 : Nat) : Int) → Y = (y : Int) → ∀ (w : World), (∃ n, w = W.drewN n) → Calls Tryd.prog 38 #[.pointer (some ⟨g, 0, none⟩), .int .i64 X, .int .i64 Y] w fun e w' => e = .returned (.pointer (some ⟨R, q1, none⟩)) ∧ ∃ k, w' = w.drewN k) := Lib.hid fun X Y hX hY w hw => by
          obtain ⟨n, rfl⟩ := hw
          rw [hq1]
          exact at_calls base g R _ ca _ cb al bl T _ (HP.out.drewN n) ha hb (x + 1) y (by omega) (by omega) _ _ hX hY
        have AT2 : Hid (∀ (X Y : Int), X = (x : Int) → Y = ((y + 1 : Nat) : Int) → ∀ (w : World), (∃ n, w = W.drewN n) → Calls Tryd.prog 38 #[.pointer (some ⟨g, 0, none⟩), .int .i64 X, .int .i64 Y] w fun e w' => e = .returned (.pointer (some ⟨R, q2, none⟩)) ∧ ∃ k, w' = w.drewN k) := Lib.hid fun X Y hX hY w hw => by
          obtain ⟨n, rfl⟩ := hw
          rw [hq2]
          exact at_calls base g R _ ca _ cb al bl T _ (HP.out.drewN n) ha hb x (y + 1) (by omega) (by omega) _ _ hX hY
        generalize T.getD q1 0 = u1 at kc1 hb1 ⊢
        generalize T.getD q2 0 = u2 at kc2 hb2 ⊢
        generalize al.getD x 0 = u at ka heq
        generalize bl.getD y 0 = v at kb heq
        clear e h1 h2 h3 hq1 hq2 hl1 hl2
        have hx1 : (x : Int) ≤ 1000 := by omega
        have hy1 : (y : Int) ≤ 1000 := by omega
        rcases Int.lt_or_le u2 u1 with hu | hu
        · have hm : min u1 u2 = u2 := by omega
          rw [hm]
          go_enter Tryd.func56, Tryd.ntmps56
          go_wp2_with fail
          go_quiet (fail)
          have HW2 : Hid (∃ n, W.drewN nq = W.drewN n) := Lib.hid ⟨nq, rfl⟩
          have d1 : (W.drewN nq).cell? ⟨R, q1, none⟩ = some (.int .i32 u1) := kc1
          have d2 : (W.drewN nq).cell? ⟨R, q2, none⟩ = some (.int .i32 u2) := kc2
          have BT1 := Lib.hid (fun X Y hX hY n => AT1.out X Y hX hY ((W.drewN nq).drewN n) ⟨_, World.drewN_drewN _ _ _⟩)
          have BT2 := Lib.hid (fun X Y hX hY n => AT2.out X Y hX hY ((W.drewN nq).drewN n) ⟨_, World.drewN_drewN _ _ _⟩)
          clear c0 c1 ka kb kc1 kc2
          generalize W.drewN nq = W2 at *
          go_wp2_with fail
          go_quiet (first | (refine Calls.quiet_of (BT1.out _ _ ?_ ?_ _) <;> (first | omega | (rw [IntKind.wrap_i64]; omega))) | (refine Calls.quiet_of (BT2.out _ _ ?_ ?_ _) <;> (first | omega | (rw [IntKind.wrap_i64]; omega))))
          go_wp2_with fail
          go_ret
          obtain ⟨k3, rfl⟩ := HW2.out
          exact ⟨rfl, k3 + nq, World.drewN_drewN _ _ _⟩
        · have hm : min u1 u2 = u1 := by omega
          have hu2 : ¬ u2 < u1 := by omega
          rw [hm]
          go_enter Tryd.func56, Tryd.ntmps56
          go_wp2_with fail
          go_quiet (fail)
          have HW2 : Hid (∃ n, W.drewN nq = W.drewN n) := Lib.hid ⟨nq, rfl⟩
          have d1 : (W.drewN nq).cell? ⟨R, q1, none⟩ = some (.int .i32 u1) := kc1
          have d2 : (W.drewN nq).cell? ⟨R, q2, none⟩ = some (.int .i32 u2) := kc2
          have BT1 := Lib.hid (fun X Y hX hY n => AT1.out X Y hX hY ((W.drewN nq).drewN n) ⟨_, World.drewN_drewN _ _ _⟩)
          have BT2 := Lib.hid (fun X Y hX hY n => AT2.out X Y hX hY ((W.drewN nq).drewN n) ⟨_, World.drewN_drewN _ _ _⟩)
          clear c0 c1 ka kb kc1 kc2
          generalize W.drewN nq = W2 at *
          go_wp2_with fail
          go_quiet (first | (refine Calls.quiet_of (BT1.out _ _ ?_ ?_ _) <;> (first | omega | (rw [IntKind.wrap_i64]; omega))) | (refine Calls.quiet_of (BT2.out _ _ ?_ ?_ _) <;> (first | omega | (rw [IntKind.wrap_i64]; omega))))
          go_wp2_with fail
          go_ret
          obtain ⟨k3, rfl⟩ := HW2.out
          exact ⟨rfl, k3 + nq, World.drewN_drewN _ _ _⟩
end Go.Proofs.YtmnpcignolofaaaDoor
