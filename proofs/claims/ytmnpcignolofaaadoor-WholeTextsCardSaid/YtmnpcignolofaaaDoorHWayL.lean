/- diff.Way: all points. -/
import Derived.Test.YtmnpcignolofaaaDoorHStep
namespace Go.Proofs.YtmnpcignolofaaaDoor
set_option linter.unusedVariables false
set_option linter.unusedSimpArgs false
open Go.RowKit Go.Proofs.YtmnpcignolofaaaDoorW.PrintWords Go.Proofs.YtmnpcignolofaaaDoorW.PrintMore
def stepD (a b : List ByteArray) (x y : Nat) : Nat × Nat :=
  if x < a.length ∧ y < b.length ∧ (txs a).getD x [] = (txs b).getD y [] then (1, 1) else
    if x < a.length ∧ (y = b.length ∨ dd a b (x + 1) y ≤ dd a b x (y + 1)) then (1, 0) else (0, 1)
theorem step_is {a b : List ByteArray} {al bl T : List Int} (hN : Nums a b al bl) (hT : Okt a b T 0 0) {x y : Nat} (hx : x ≤ a.length) (hy : y ≤ b.length) : stepN al bl T x y = stepD a b x y := by
  unfold stepN stepD
  rw [hN.la, hN.lb]
  have hok : ∀ x y, x ≤ a.length → y ≤ b.length → T.getD (x * (b.length + 1) + y) 0 = (dd a b x y : Int) := fun x y h1 h2 => hT x y h1 h2 (by omega)
  have e1 : (x < a.length ∧ y < b.length ∧ al.getD x 0 = bl.getD y 0) ↔ (x < a.length ∧ y < b.length ∧ (txs a).getD x [] = (txs b).getD y []) :=
    ⟨fun h => ⟨h.1, h.2.1, (hN.eq x y h.1 h.2.1).1 h.2.2⟩, fun h => ⟨h.1, h.2.1, (hN.eq x y h.1 h.2.1).2 h.2.2⟩⟩
  have e2 : (x < a.length ∧ (y = b.length ∨ T.getD ((x + 1) * (b.length + 1) + y) 0 ≤ T.getD (x * (b.length + 1) + (y + 1)) 0)) ↔ (x < a.length ∧ (y = b.length ∨ dd a b (x + 1) y ≤ dd a b x (y + 1))) := by
    refine and_congr_right fun h1 => ?_
    by_cases h2 : y = b.length
    · exact ⟨fun _ => .inl h2, fun _ => .inl h2⟩
    · rw [hok (x + 1) y (by omega) hy, hok x (y + 1) hx (by omega)]
      exact ⟨fun h => by rcases h with h | h; exact .inl h; exact .inr (by omega), fun h => by rcases h with h | h; exact .inl h; exact .inr (by omega)⟩
  exact ite_congr (propext e1) (fun _ => rfl) (fun _ => ite_congr (propext e2) (fun _ => rfl) (fun _ => rfl))
theorem stepD_in {a b : List ByteArray} {x y : Nat} (hx : x ≤ a.length) (hy : y ≤ b.length) (h : ¬ (x = a.length ∧ y = b.length)) :
    x + (stepD a b x y).1 ≤ a.length ∧ y + (stepD a b x y).2 ≤ b.length ∧ 1 ≤ (stepD a b x y).1 + (stepD a b x y).2 ∧ (stepD a b x y).1 ≤ 1 ∧ (stepD a b x y).2 ≤ 1 := by
  unfold stepD
  by_cases h1 : x < a.length ∧ y < b.length ∧ (txs a).getD x [] = (txs b).getD y []
  · rw [if_pos h1]
    exact ⟨by show x + 1 ≤ _; omega, by show y + 1 ≤ _; omega, by decide, by decide, by decide⟩
  · rw [if_neg h1]
    by_cases h2 : x < a.length ∧ (y = b.length ∨ dd a b (x + 1) y ≤ dd a b x (y + 1))
    · rw [if_pos h2]
      exact ⟨by show x + 1 ≤ _; omega, by show y + 0 ≤ _; omega, by decide, by decide, by decide⟩
    · rw [if_neg h2]
      have hy2 : y < b.length := by
        rcases Nat.lt_or_ge y b.length with e | e
        · exact e
        · exact absurd ⟨by omega, .inl (by omega)⟩ h2
      exact ⟨by show x + 0 ≤ _; omega, by show y + 1 ≤ _; omega, by decide, by decide, by decide⟩
/-- The points behind (x, y). -/
def wayW (a b : List ByteArray) (x y : Nat) : List (Nat × Nat) :=
  if h : x + y < a.length + b.length ∧ 1 ≤ (stepD a b x y).1 + (stepD a b x y).2 then (x + (stepD a b x y).1, y + (stepD a b x y).2) :: wayW a b (x + (stepD a b x y).1) (y + (stepD a b x y).2) else []
termination_by a.length + b.length - (x + y)
decreasing_by omega
theorem wayW_end (a b : List ByteArray) : wayW a b a.length b.length = [] := by rw [wayW, dif_neg (by omega)]
theorem wayW_go {a b : List ByteArray} {x y : Nat} (hx : x ≤ a.length) (hy : y ≤ b.length) (h : ¬ (x = a.length ∧ y = b.length)) : wayW a b x y = (x + (stepD a b x y).1, y + (stepD a b x y).2) :: wayW a b (x + (stepD a b x y).1) (y + (stepD a b x y).2) := by
  have h1 := stepD_in hx hy h
  conv => lhs; rw [wayW]
  rw [dif_pos ⟨by omega, h1.2.2.1⟩]
def wayP (a b : List ByteArray) : List (Nat × Nat) := (0, 0) :: wayW a b 0 0
theorem Pl.below {base g R : Nat} {Aa : Option Addr} {ca : Nat} {Ab : Option Addr} {cb : Nat} {al bl T : List Int} {W W' : World} (h : Pl base g R Aa ca Ab cb al bl T W) (hb : Below W.heap.size W W') : Pl base g R Aa ca Ab cb al bl T W' :=
  ⟨(hb.block g (blk_lt h.blk)).trans h.blk, pw_own_below h.a hb, pw_own_below h.b hb, pw_own_below h.r hb, h.len, h.bg⟩
theorem pt_00 : pt (0, 0) = .complex .f64 0 0 := by unfold pt; rw [fl_0]
theorem eq_guard (u v : Operand) (p q : Nat × Nat) (w : World) : (eqGuard .neq 36 u v (pt p) (pt q)).run Tryd.prog w = .ok () w := by
  unfold pt
  cases u <;> cases v <;> rfl
theorem infoC : (Tryd.prog.info? 36).map (fun i => (i.zero, i.size, i.bytes)) = some (some (.complex .f64 0 0), 1, 16) := by kernel_rfl
set_option maxRecDepth 8000 in
set_option maxHeartbeats 4000000 in
theorem way_calls (base g R : Nat) (Aa : Option Addr) (ca : Nat) (Ab : Option Addr) (cb : Nat) (al bl T : List Int) (W : World) (a b : List ByteArray) (h : Pl base g R Aa ca Ab cb al bl T W) (hN : Nums a b al bl) (hT : Okt a b T 0 0) (ha : a.length ≤ 1000) (hb : b.length ≤ 1000) :
    Calls Tryd.prog 33 #[.pointer (some ⟨g, 0, none⟩)] W fun e w' => ∃ v, e = .returned v ∧ w'.ownsRow W.heap.size 36 1 v (wayP a b).length (encs pt (wayP a b)) ∧ Below W.heap.size W w' := by
  have HP := Lib.hid h
  have HN := Lib.hid hN
  have HT := Lib.hid hT
  have hla := hN.la
  have hlb := hN.lb
  have hRlt := own_lt h.r R rfl
  have hglt := blk_lt h.blk
  have HL0 := Lib.hid (own_lit_of (enc := pt) W W.heap.size 36 [(0, 0)] (Nat.le_refl _) (by simp))
  have e00 : encs pt [(0, 0)] = [.complex .f64 0 0] := by simp [encs, pt_00]
  rw [e00] at HL0
  clear h hN hT e00
  go_enter Tryd.func33, Tryd.ntmps33
  go_wp2_with fail
  go_loopg [3, 4] (a.length + b.length) (fun k v3 v4 wr => ∃ (x y : Nat) (pts : List (Nat × Nat)), v3 = pt (x, y) ∧ x ≤ a.length ∧ y ≤ b.length ∧ pts.length ≤ x + y + 1 ∧ k + (x + y) = a.length + b.length ∧ Hid (wr.ownsRow W.heap.size 36 1 v4 (encs pt pts).length (encs pt pts)) ∧ Hid (pts ++ wayW a b x y = wayP a b) ∧ Hid (Below W.heap.size W wr))
  case atStart => exact ⟨0, 0, [(0, 0)], pt_00.symm, by omega, by omega, by simp, by omega, by rw [show encs pt [(0, 0)] = [.complex .f64 0 0] from by simp [encs, pt_00]]; exact HL0, Lib.hid rfl, Lib.hid (below_alloc (Below.refl _ _) _)⟩
  case round =>
    obtain ⟨x, y, pts, rfl, hx, hy, hpl, hk, hrow, heq, hbel⟩ := hrel
    have HP1 := Lib.hid (HP.out.below hbel.out)
    go_wp2_with fail
    refine (end_calls base g R Aa ca Ab cb al bl T wr HP1.out).mono ?_
    rintro e w2 ⟨rfl, n2, rfl⟩
    have HP2 := Lib.hid (HP1.out.drewN n2)
    have HB2 := Lib.hid (pw_below_drewN hbel.out n2)
    have HR2 : Hid ((wr.drewN n2).ownsRow W.heap.size 36 1 u4 (encs pt pts).length (encs pt pts)) := Lib.hid hrow.out
    clear HP1 hbel hrow
    generalize wr.drewN n2 = w2 at *
    rw [hla, hlb]
    have hgd := eq_guard (.tmp 7) (.tmp 9) (x, y) (a.length, b.length)
    have hne := cx_neq x y a.length b.length (by omega) (by omega) (by omega) (by omega)
    by_cases hend : x = a.length ∧ y = b.length
    · have hne2 : ∀ w, (binOp .neq 36 (pt (x, y)) (pt (a.length, b.length))).run Tryd.prog w = .ok (.bool false) w := fun w => by
        have h := hne w
        have e : (!(decide (x = a.length) && decide (y = b.length))) = false := by simp [hend.1, hend.2]
        rw [e] at h
        exact h
      have HEND := Lib.hid hend
      clear hne hend
      go_wp2_with fail
      go_ret
      have hend := HEND.out
      have hp : pts = wayP a b := by
        have h := heq.out
        rwa [hend.1, hend.2, wayW_end, List.append_nil] at h
      have h := HR2.out
      rw [hp, encs_length] at h
      exact ⟨_, rfl, h, HB2.out⟩
    · have hne2 : ∀ w, (binOp .neq 36 (pt (x, y)) (pt (a.length, b.length))).run Tryd.prog w = .ok (.bool true) w := fun w => by
        have h := hne w
        have e : (!(decide (x = a.length) && decide (y = b.length))) = true := by
          simp
          omega
        rw [e] at h
        exact h
      clear hne
      go_wp2_with fail
      refine (step_calls base g R Aa ca Ab cb al bl T w2 HP2.out (by omega) (by omega) x y (by omega) (by omega) (by omega)).mono ?_
      rintro e w3 ⟨rfl, n3, rfl⟩
      rw [step_is HN.out HT.out hx hy]
      have HB3 := Lib.hid (pw_below_drewN HB2.out n3)
      have HR3 : Hid ((w2.drewN n3).ownsRow W.heap.size 36 1 u4 (encs pt pts).length (encs pt pts)) := Lib.hid HR2.out
      clear HP2 HB2 HR2 hne2
      generalize w2.drewN n3 = w3 at *
      have hin := stepD_in hx hy hend
      have hgo := wayW_go hx hy hend
      generalize stepD a b x y = d at hin hgo ⊢
      obtain ⟨dx, dy⟩ := d
      simp only at hin hgo
      have hadd : ∀ w, (binOp .add 36 (pt (x, y)) (pt (dx, dy))).run Tryd.prog w = .ok (.complex .f64 (fl (x + dx)) (fl (y + dy))) w := cx_add x y dx dy (by omega) (by omega) hin.2.2.2.1 hin.2.2.2.2
      have HEQ : Hid ((pts ++ [(x + dx, y + dy)]) ++ wayW a b (x + dx) (y + dy) = wayP a b) := Lib.hid (by
        have h := heq.out
        rw [hgo] at h
        rw [List.append_assoc]
        exact h)
      clear hgo heq
      go_wp2_with (at_builtin; refine print_append (w0 := w3) W.heap.size rfl (.tmp 16) (.tmp 18) 28 36 (.complex .f64 0 0) 16 rfl Tryd.underlying28 infoC rfl (by omega) _ (encs pt pts) (.complex .f64 (fl (x + dx)) (fl (y + dy))) rfl rfl rfl HR3.out (Below.refl _ _) HB3.out.size (by rw [encs_length]; omega) ?_; intro v1 w4 hown1 hbel1 hgrow hat1; have HO1 := Lib.hid hown1; have HG1 := Lib.hid hgrow; clear hown1 hbel1 hgrow hat1)
      go_roundg (gk - (dx + dy))
      case measure => omega
      case rel =>
        refine ⟨x + dx, y + dy, pts ++ [(x + dx, y + dy)], rfl, hin.1, hin.2.1, by simp; omega, by omega, ?_, HEQ, Lib.hid ?_⟩
        · have h := HO1.out
          rw [show encs pt (pts ++ [(x + dx, y + dy)]) = encs pt pts ++ [.complex .f64 (fl (x + dx)) (fl (y + dy))] from by rw [encs_append]; rfl]
          exact Lib.hid h
        · have hg := HG1.out
          have hs := HB3.out.size
          exact ⟨hg.os.trans HB3.out.os, hg.tape.trans HB3.out.tape, hg.output.trans HB3.out.output, Nat.le_trans hs hg.size, fun i hi => (hg.block i (Nat.lt_of_lt_of_le hi hs) (fun e => by have := own_base HR3.out i e.symm; omega)).trans (HB3.out.block i hi)⟩
end Go.Proofs.YtmnpcignolofaaaDoor
