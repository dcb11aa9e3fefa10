/- diff.inForm of hunks in form: true. -/
import Derived.Test.YtmnpcignolofaaaHInside
import Derived.Test.YtmnpcignolofaaaHAppQ
namespace Go.Proofs.Ytmnpcignolofaaa
set_option linter.unusedVariables false
set_option linter.unusedSimpArgs false
open Go.RowKit Go.Proofs.YtmnpcignolofaaaW.PrintWords Go.Proofs.YtmnpcignolofaaaW.PrintMore
theorem cx_subt (x y u v : Nat) (hx : x ≤ 60) (hy : y ≤ 60) (hu : u ≤ x) (hv : v ≤ y) (w : World) : (binOp .sub 30 (.complex .f64 (fl x) (fl y)) (.complex .f64 (fl u) (fl v))).run Try.prog w = .ok (.complex .f64 (fl (x - u)) (fl (y - v))) w := by
  refine run_complex_sum w .sub (.inr rfl) 30 .f64 _ _ _ _ _ _ ?_
  unfold cSumBits
  rw [fl_subt ⟨x, by omega⟩ ⟨u, by omega⟩ hu, fl_subt ⟨y, by omega⟩ ⟨v, by omega⟩ hv]
  rfl
theorem eq_guardF (op : BinOp) (u v : Operand) (x y : Nat) (w : World) : (eqGuard op 31 u v (.float .f64 x) (.float .f64 y)).run Try.prog w = .ok () w := by
  cases u <;> cases v <;> cases op <;> rfl
theorem cv_0 (w : World) : (convert 3 31 (.int .i64 0)).run Try.prog w = .ok (.float .f64 (fl 0)) w := cv_if 0 w
theorem cv_1 (w : World) : (convert 3 31 (.int .i64 1)).run Try.prog w = .ok (.float .f64 (fl 1)) w := cv_if 1 w
set_option maxRecDepth 100000 in
set_option maxHeartbeats 40000000 in
theorem inForm_calls (w : World) (base : Nat) (v : Value) (l : List (Pn × Pn)) (hv : w.ownsRow base 60 2 v l.length (hc l)) (n m : Nat) (hn : n ≤ 60) (hm : m ≤ 60) (hl : l.length ≤ 1000) (hf : okH n m 0 (0, 0) l) :
    Calls Try.prog 37 #[v, .int .i64 n, .int .i64 m] w fun e w' => e = .returned (.bool true) ∧ Below w.heap.size w w' := by
  obtain ⟨A, c, rfl⟩ := own_slice hv
  have HV := Lib.hid hv
  have HF := Lib.hid hf
  clear hv hf
  go_enter Try.func37, Try.ntmps37
  go_wp2_with fail
  go_loopw [16, 7] (fun v16 v7 wr => ∃ (i p q : Nat), v16 = .int .i64 i ∧ i ≤ l.length ∧ v7 = .complex .f64 (fl p) (fl q) ∧ p ≤ n ∧ q ≤ m ∧ Hid (okH n m (min i 1) (p, q) (l.drop i)) ∧ Hid (Below w.heap.size w wr)) (fun v16 _ _ => l.length - (intOf v16).toNat)
  case atStart => exact ⟨0, 0, 0, rfl, by omega, by rw [fl_0], by omega, by omega, HF, Lib.hid (Below.refl _ _)⟩
  case round =>
    obtain ⟨i, p, q, rfl, hi, rfl, hp, hq, hok, hbel⟩ := hrel
    by_cases hlt : i < l.length
    · have i0 : (0 : Int) ≤ (i : Int) := by omega
      have i1 : (i : Int) < (l.length : Int) := by omega
      obtain ⟨g, cap, hg⟩ := own_pos HV.out (by omega)
      injection hg with hg1 _ hg2
      subst hg1 hg2
      have hc2 := own_cells2 (pw_own_below HV.out hbel.out) i hlt
      have hdr : l.drop i = l.getD i ((0, 0), (0, 0)) :: l.drop (i + 1) := by
        rw [List.drop_eq_getElem_cons hlt]
        simp [List.getD_eq_getElem?_getD, List.getElem?_eq_getElem hlt]
      have ho := hok.out
      rw [hdr] at ho
      obtain ⟨⟨⟨x, y⟩, ⟨z, t⟩⟩, hd⟩ : ∃ x, x = l.getD i ((0, 0), (0, 0)) := ⟨_, rfl⟩
      rw [← hd] at hc2 ho
      have k1 : wr.cell? ⟨g, i * 2, none⟩ = some (.complex .f64 (fl x) (fl y)) := hc2.1
      have k2 : wr.cell? ⟨g, i * 2 + 1, none⟩ = some (.complex .f64 (fl z) (fl t)) := hc2.2
      obtain ⟨h1, h2, h3, h4, h5, h6, h7, h8, h9⟩ := ho
      simp only at h1 h2 h3 h4 h5 h6 h7 h8
      have H9 := Lib.hid h9
      have hs1 := sto_cx (fl x) (fl y)
      have hs2 := sto_cx (fl z) (fl t)
      have HI1 := fun W => Lib.hid (inside_calls x y n m (by omega) (by omega) hn hm W)
      have HI2 := fun W => Lib.hid (inside_calls z t n m h3 h4 hn hm W)
      clear hc2 hdr hd hok h9
      go_wp2_with fail
      refine (HI1 _).out.mono ?_
      rintro e w' ⟨rfl, rfl⟩
      go_wp2_with fail
      refine (HI2 _).out.mono ?_
      rintro e w' ⟨rfl, rfl⟩
      obtain ⟨W2, hW2⟩ : ∃ W, W = wr.alloc (Obj.cells #[Value.complex .f64 (fl x) (fl y), Value.complex .f64 (fl z) (fl t)] 60) := ⟨_, rfl⟩
      have k3 : W2.cell? ⟨wr.heap.size, 0, none⟩ = some (.complex .f64 (fl x) (fl y)) := by rw [hW2, World.cell?_alloc_at (w := wr) _ _ wr.heap.size 0 rfl]; rfl
      have k4 : W2.cell? ⟨wr.heap.size, 1, none⟩ = some (.complex .f64 (fl z) (fl t)) := by rw [hW2, World.cell?_alloc_at (w := wr) _ _ wr.heap.size 1 rfl]; rfl
      have HB2 := Lib.hid (show Below w.heap.size w W2 by rw [hW2]; exact below_alloc hbel.out _)
      have hA := cx_subt x y p q (by omega) (by omega) (by omega) (by omega)
      have hB := cx_subt z t x y (by omega) (by omega) h1 h2
      obtain ⟨d, hd⟩ : ∃ d, d = x - p := ⟨_, rfl⟩
      obtain ⟨s1, hs1⟩ : ∃ d, d = z - x := ⟨_, rfl⟩
      obtain ⟨s2, hs2⟩ : ∃ d, d = t - y := ⟨_, rfl⟩
      rw [show y - q = x - p by omega, ← hd] at hA
      rw [← hs1, ← hs2] at hB
      obtain ⟨k, hk⟩ : ∃ k, k = min i 1 := ⟨_, rfl⟩
      rw [← hk] at h6 h7
      have o1 : (FloatKind.f64.format.order (fl d) (fl d) != some .eq) = false := by
        have := ord_eq d d (by omega) (by omega)
        rw [decide_eq_true rfl] at this
        unfold bne
        rw [this]
        rfl
      have o2 : (FloatKind.f64.format.order (fl d) (fl k) == some .lt) = false := by rw [ord_lt d k (by omega) (by omega)]; exact decide_eq_false (by omega)
      have o3 : (FloatKind.f64.format.order (fl s1) 0 == some .lt) = false := by have h := ord_lt s1 0 (by omega) (by omega); rw [fl_0] at h; rw [h]; exact decide_eq_false (by omega)
      have o4 : (FloatKind.f64.format.order (fl s2) 0 == some .lt) = false := by have h := ord_lt s2 0 (by omega) (by omega); rw [fl_0] at h; rw [h]; exact decide_eq_false (by omega)
      have o5 : (FloatKind.f64.format.order (fl s1) 0 == some .eq && FloatKind.f64.format.order (fl s2) 0 == some .eq) = false := by
        have ha := ord_eq s1 0 (by omega) (by omega)
        have hb := ord_eq s2 0 (by omega) (by omega)
        rw [fl_0] at ha hb
        rw [ha, hb]
        by_cases e : s1 = 0
        · rw [decide_eq_true e, decide_eq_false (by omega)]; rfl
        · rw [decide_eq_false e]; rfl
      have g1 := eq_guardF .neq
      have g2 := eq_guardC .eql
      have HK := Lib.hid (And.intro hk (And.intro hi (And.intro hlt (And.intro h3 h4))))
      rw [← hW2]
      clear hs1 hs2 hd hk h1 h2 h3 h4 h5 h6 h7 hW2 k1 k2 hbel HI1 HI2
      go_wp2_with fail
      go_quiet (fail)
      have k4' : (W2.drewN nq).cell? ⟨wr.heap.size, 1, none⟩ = some (.complex .f64 (fl z) (fl t)) := k4
      have HB3 := Lib.hid (pw_below_drewN HB2.out nq)
      clear k3 k4 HB2 hA hB
      generalize W2.drewN nq = W3 at *
      obtain ⟨hk, hi, hlt, h3, h4⟩ := HK.out
      rcases Nat.eq_zero_or_pos i with e0 | e0
      · subst e0
        obtain rfl : k = 0 := by omega
        clear hk hi hlt h3 h4
        have c0 := cv_0
        go_wp2_with fail
        go_roundw
        case rel => exact ⟨1, z, t, rfl, by omega, rfl, HK.out.2.2.2.1, HK.out.2.2.2.2, H9, HB3⟩
        case measure => simp only [intOf]; omega
      · obtain rfl : k = 1 := by omega
        rcases Nat.lt_or_ge 1 i with e1 | e1
        · clear hk hi hlt h3 h4
          have c1 := cv_1
          have m1 : (1 : Int) < (i : Int) := by omega
          have wi : IntKind.i64.wrap ((i : Int) + 1) = (i : Int) + 1 := by rw [IntKind.wrap_i64]; omega
          go_wp2_with fail
          go_roundw
          case rel => exact ⟨i + 1, z, t, by go_num, by omega, rfl, HK.out.2.2.2.1, HK.out.2.2.2.2, by rw [show min (i + 1) 1 = 1 by omega]; exact H9, HB3⟩
          case measure => simp only [intOf]; omega
        · obtain rfl : i = 1 := by omega
          clear hk hi hlt h3 h4
          have c1 := cv_1
          go_wp2_with fail
          go_roundw
          case rel => exact ⟨2, z, t, rfl, by omega, rfl, HK.out.2.2.2.1, HK.out.2.2.2.2, H9, HB3⟩
          case measure => simp only [intOf]; omega
    · obtain rfl : i = l.length := by omega
      have ho := hok.out
      rw [List.drop_of_length_le (Nat.le_refl _)] at ho
      have ho : n + q = m + p := ho
      have HP := Lib.hid (parts_calls p q (by omega) (by omega) wr)
      have wn : IntKind.i64.wrap ((n : Int) - (p : Int)) = (n : Int) - (p : Int) := by rw [IntKind.wrap_i64]; omega
      have wm : IntKind.i64.wrap ((m : Int) - (q : Int)) = (n : Int) - (p : Int) := by rw [IntKind.wrap_i64]; omega
      clear hok
      go_wp2_with fail
      refine HP.out.mono ?_
      rintro e w' ⟨rfl, rfl⟩
      go_wp2_with fail
      go_ret
      exact ⟨rfl, hbel.out⟩
end Go.Proofs.Ytmnpcignolofaaa
