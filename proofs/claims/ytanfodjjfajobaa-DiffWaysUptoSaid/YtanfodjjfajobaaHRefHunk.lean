/- codicilref19.Hunks: walked. -/
import Derived.Test.YtanfodjjfajobaaHHunkW
namespace Go.Proofs.Ytanfodjjfajobaa
set_option linter.unusedVariables false
set_option linter.unusedSimpArgs false
open Go.RowKit Go.Proofs.YtanfodjjfajobaaW.PrintWords Go.Proofs.YtanfodjjfajobaaW.PrintMore
theorem own_pos {w : World} {base n size : Nat} {e : TypeId} {v : Value} {xs : List Value} (h : w.ownsRow base e size v n xs) (hn : 0 < n) : ∃ g cap, v = .slice (some ⟨g, 0, none⟩) n cap := by
  rcases h.2 with ⟨_, h0⟩ | ⟨g, cap, cur, hv, _⟩
  · omega
  · exact ⟨g, cap, hv⟩
theorem sto_cx (X Y : Nat) (w : World) (a : Addr) : (store a (.complex .f64 X Y)).run Try.prog w = stored Try.prog w a (.complex .f64 X Y) .plain := run_store _ w a _ _ rfl
theorem hc_at (hs : List (Pn × Pn)) (f z : Pn) : (hc (hs ++ [(f, z)]))[hs.length * 2 + 1]? = some (pt z) := by
  rw [hc_append, hc_one, List.getElem?_append_right (by rw [hc_length]; omega), hc_length]
  rw [show hs.length * 2 + 1 - hs.length * 2 = 1 from by omega]
  rfl
theorem hc_set (hs : List (Pn × Pn)) (f z q : Pn) : (hc (hs ++ [(f, z)])).set (hs.length * 2 + 1) (pt q) = hc (hs ++ [(f, q)]) := by
  rw [hc_append, hc_append, hc_one, hc_one, List.set_append_right _ _ (by rw [hc_length]; omega), hc_length]
  rw [show hs.length * 2 + 1 - hs.length * 2 = 1 from by omega]
  rfl
set_option maxRecDepth 20000 in
set_option maxHeartbeats 40000000 in
theorem refHunks_calls (w0 : World) (ax : Addr) (cw : Nat) (a b : List ByteArray) (m : Nat) (hm : m = (wayP a b).length) (hr : ReadsOf pt (0, 0) w0 (some ax) m (wayP a b)) (hna : a.length ≤ 60) (hnb : b.length ≤ 60) :
    Calls Try.prog 31 #[.slice (some ax) m cw] w0 fun e w' => ∃ v, e = .returned v ∧ w'.ownsRow w0.heap.size 62 2 v (hks a b).length (hc (hks a b)) ∧ Below w0.heap.size w0 w' := by
  have HR := Lib.hid hr
  have h0 := hkAt_0 a b
  obtain ⟨P, hP⟩ : ∃ P, P = wayP a b := ⟨_, rfl⟩
  have hPl := wayP_len a b
  have HT := Lib.hid (two_at a b)
  rw [← hP] at hm HR HT hPl h0
  obtain ⟨H, hH⟩ : ∃ H, H = hks a b := ⟨_, rfl⟩
  rw [← hH] at h0 ⊢
  have H0 := Lib.hid h0
  have HM := Lib.hid hm
  rw [← hm] at hPl
  clear hr hP hH h0 hm
  go_enter Try.func31, Try.ntmps31
  go_wp2_with fail
  go_loopw [5, 4, 3] (fun v5 v4 v3 wr => ∃ (i : Nat) (hs : List (Pn × Pn)) (o : Option Pn), v5 = .int .i64 i ∧ v4 = .bool o.isSome ∧ 1 ≤ i ∧ i ≤ m ∧ Hid (wr.ownsRow w0.heap.size 62 2 v3 (hs ++ (o.map fun f => (f, P.getD (i - 1) (0, 0))).toList).length (hc (hs ++ (o.map fun f => (f, P.getD (i - 1) (0, 0))).toList))) ∧ Hid (hs ++ hkAt P o (i - 1) = H) ∧ hs.length + 1 ≤ i ∧ Hid (Below w0.heap.size w0 wr)) (fun v5 _ _ _ => m - (intOf v5).toNat)
  case atStart => exact ⟨1, [], none, rfl, rfl, by omega, by omega, Lib.hid (own_nil _ _ _ _), Lib.hid (by rw [← H0.out]; rfl), Nat.le_refl _, Lib.hid (Below.refl _ _)⟩
  case round =>
    obtain ⟨i, hs, o, rfl, rfl, hi1, hi, hrow, heq, hsl, hbel⟩ := hrel
    have hP1 := hPl.1
    obtain ⟨j, hj⟩ : ∃ j, j = i - 1 := ⟨_, rfl⟩
    rw [← hj] at hrow heq
    have hij : i = j + 1 := by omega
    clear hj
    by_cases hlt : i < m
    · obtain ⟨x, y, dx, dy, t⟩ := HT.out j (by rw [← HM.out]; omega)
      have hgo := hkAt_go o (by rw [← HM.out]; omega) t
      obtain ⟨ax', hAx, hcx⟩ := (HR.out.below hbel.out).2.2 (by omega)
      obtain rfl := Option.some.inj hAx
      have k1 : wr.cell? (ax.add j) = some (.complex .f64 (fl x) (fl y)) := by have h := hcx j (by omega); rw [t.p] at h; exact h
      have k2 : wr.cell? (ax.add i) = some (.complex .f64 (fl (x + dx)) (fl (y + dy))) := by have h := hcx i (by omega); rw [hij, t.q, ← hij] at h; exact h
      have wj : IntKind.i64.wrap ((i : Int) - 1) = (j : Int) := by rw [IntKind.wrap_i64]; omega
      have j0 : (0 : Int) ≤ (j : Int) := by omega
      have j1 : (j : Int) < (m : Int) := by omega
      have i0 : (0 : Int) ≤ (i : Int) := by omega
      have i1 : (i : Int) < (m : Int) := by omega
      have hsub := cx_sub x y dx dy (by have := t.hx; omega) (by have := t.hy; omega) t.d1 t.d2
      have hd : (dx = 1 ∧ dy = 1) ∨ (dx = 1 ∧ dy = 0) ∨ (dx = 0 ∧ dy = 1) := by have := t.one; have := t.d1; have := t.d2; omega
      have HE := heq.out
      rw [hgo] at HE
      have hpj : P.getD j (0, 0) = (x, y) := t.p
      have HQ : Hid (P.getD i (0, 0) = (x + dx, y + dy)) := Lib.hid (by rw [hij]; exact t.q)
      rw [hpj] at HE hrow
      generalize hX1 : fl (x + dx) = X1 at k2 hsub
      generalize hY1 : fl (y + dy) = Y1 at k2 hsub
      have HX1 := Lib.hid hX1
      have HY1 := Lib.hid hY1
      have HIJ := Lib.hid hij
      clear hgo t hcx heq hAx hX1 hY1 hlt hij
      rcases hd with ⟨rfl, rfl⟩ | ⟨rfl, rfl⟩ | ⟨rfl, rfl⟩
      · rw [fl_1] at hsub
        have nn := k11_11
        have gd := eq_guardC .eql (.tmp 21) (.const (.complex .f64 4607182418800017408 4607182418800017408)) 4607182418800017408 4607182418800017408 4607182418800017408 4607182418800017408
        have HN : Hid ((hs ++ (o.map fun f => (f, ((x, y) : Pn))).toList) ++ hkAt P none i = H) := Lib.hid (by
          rw [if_pos ⟨rfl, rfl⟩, ← HIJ.out] at HE
          rw [← HE, List.append_assoc]
          cases o <;> rfl)
        clear HE
        go_wp2_with fail
        go_quiet (fail)
        go_wp2_with fail
        have hij := HIJ.out
        go_roundw
        case rel => exact ⟨i + 1, hs ++ (o.map fun f => (f, ((x, y) : Pn))).toList, none, by go_num, rfl, by omega, by omega, Lib.hid (by simp only [Option.map_none, Option.toList_none, List.append_nil]; exact hrow.out), HN, by cases o <;> simp <;> omega, Lib.hid (pw_below_drewN hbel.out nq)⟩
        case measure => simp [intOf]; omega
      · rw [fl_1, fl_0] at hsub
        have kk1 := k10_11
        have gd1 := eq_guardC .eql (.tmp 21) (.const (.complex .f64 4607182418800017408 4607182418800017408)) 4607182418800017408 0 4607182418800017408 4607182418800017408
        have HIN : Hid (hs ++ hkAt P (some (o.getD (x, y))) i = H) := Lib.hid (by
          rw [if_neg (by omega), ← HIJ.out] at HE
          exact HE)
        clear HE
        rcases o with _ | fo
        · have HRW0 : Hid (wr.ownsRow w0.heap.size 62 2 u3 hs.length (hc hs)) := Lib.hid (by have h := hrow.out; simpa using h)
          clear hrow
          go_wp2_with fail
          go_quiet (fail)
          have HRW : Hid ((wr.drewN nq).ownsRow w0.heap.size 62 2 u3 hs.length (hc hs)) := Lib.hid HRW0.out
          have HBW := Lib.hid (pw_below_drewN hbel.out nq)
          have k1' : (wr.drewN nq).cell? (ax.add j) = some (.complex .f64 (fl x) (fl y)) := k1
          clear k1 k2 hbel HRW0
          generalize wr.drewN nq = w3 at *
          go_wp2_with (
            at_builtin
            refine print_append_cells (w0 := w0) w0.heap.size rfl (.tmp 25) (.tmp 32) 38 62 (.agg #[.complex .f64 0 0, .complex .f64 0 0]) 2 32 rfl Try.underlying38 infoR rfl (by omega) (by omega) u3 hs.length (hc hs) [.complex .f64 (fl x) (fl y), .complex .f64 0 0] (by rfl) (by rfl) rfl (by intro u hu; simp at hu; rcases hu with rfl | rfl <;> rfl) HRW.out HBW.out HBW.out.size (by omega) ?_
            intro v1 w5 hown1 hbel1 hgrow hat1
            have HO : Hid (w5.ownsRow w0.heap.size 62 2 v1 (hs.length + 1) (hc (hs ++ [((x, y), (0, 0))]))) := Lib.hid (by rw [hc_append, hc_one, pt_00]; exact hown1)
            have HB5 := Lib.hid hbel1
            clear hown1 hbel1 hgrow hat1
            clear k1' HRW HBW
            obtain ⟨g, cap, rfl⟩ := own_pos HO.out (by omega)
            have HSET : Hid ((w5.setCell ⟨g, hs.length * 2 + 1, none⟩ (.complex .f64 X1 Y1)).ownsRow w0.heap.size 62 2 (.slice (some ⟨g, 0, none⟩) (hs.length + 1) cap) (hs.length + 1) (hc (hs ++ [((x, y), P.getD i (0, 0))]))) := Lib.hid (by
              have h := (HO.out.stored (hs.length * 2 + 1) (pt (P.getD i (0, 0)))).1
              rw [hc_set] at h
              rw [← HX1.out, ← HY1.out]
              rw [HQ.out] at h ⊢
              exact h)
            have HBS : Hid (Below w0.heap.size w0 (w5.setCell ⟨g, hs.length * 2 + 1, none⟩ (.complex .f64 X1 Y1))) := Lib.hid (HB5.out.setCell (own_base HO.out g rfl) _)
            have k2' : w5.cell? (ax.add i) = some (.complex .f64 X1 Y1) := by
              obtain ⟨ax', hAx, hcx⟩ := (HR.out.below HB5.out).2.2 (by omega)
              obtain rfl := Option.some.inj hAx
              have h := hcx i (by omega)
              rw [HQ.out] at h
              rw [← HX1.out, ← HY1.out]
              exact h
            have fz := HO.out.frozenAt (hs.length * 2 + 1)
            have hsto := sto_cx X1 Y1
            have hcell : w5.cell? ⟨g, hs.length * 2 + 1, none⟩ = some (Value.complex .f64 (fl 0) (fl 0)) := by
              have h := HO.out.cells (g := g) rfl (hs.length * 2 + 1) (pt (0, 0)) (hc_at hs (x, y) (0, 0))
              rwa [add_plain] at h
        )
          have hij := HIJ.out
          go_roundw
          case rel => exact ⟨i + 1, hs, some (x, y), by go_num, rfl, by omega, by omega, Lib.hid (by rw [show i + 1 - 1 = i from by omega]; simp only [Option.map_some, Option.toList_some, List.length_append, List.length_singleton]; exact HSET.out), HIN, by omega, HBS⟩
          case measure => simp [intOf]; omega
        · have HO0 : Hid (wr.ownsRow w0.heap.size 62 2 u3 (hs.length + 1) (hc (hs ++ [(fo, (x, y))]))) := Lib.hid (by have h := hrow.out; simpa using h)
          clear hrow
          obtain ⟨g, cap, rfl⟩ := own_pos HO0.out (by omega)
          go_wp2_with fail
          go_quiet (fail)
          have HO : Hid ((wr.drewN nq).ownsRow w0.heap.size 62 2 (.slice (some ⟨g, 0, none⟩) (hs.length + 1) cap) (hs.length + 1) (hc (hs ++ [(fo, (x, y))]))) := Lib.hid HO0.out
          have HB5 := Lib.hid (pw_below_drewN hbel.out nq)
          clear k1 k2 hbel HO0
          generalize wr.drewN nq = w5 at *
          have HSET : Hid ((w5.setCell ⟨g, hs.length * 2 + 1, none⟩ (.complex .f64 X1 Y1)).ownsRow w0.heap.size 62 2 (.slice (some ⟨g, 0, none⟩) (hs.length + 1) cap) (hs.length + 1) (hc (hs ++ [(fo, P.getD i (0, 0))]))) := Lib.hid (by
            have h := (HO.out.stored (hs.length * 2 + 1) (pt (P.getD i (0, 0)))).1
            rw [hc_set] at h
            rw [← HX1.out, ← HY1.out]
            rw [HQ.out] at h ⊢
            exact h)
          have HBS : Hid (Below w0.heap.size w0 (w5.setCell ⟨g, hs.length * 2 + 1, none⟩ (.complex .f64 X1 Y1))) := Lib.hid (HB5.out.setCell (own_base HO.out g rfl) _)
          have k2' : w5.cell? (ax.add i) = some (.complex .f64 X1 Y1) := by
            obtain ⟨ax', hAx, hcx⟩ := (HR.out.below HB5.out).2.2 (by omega)
            obtain rfl := Option.some.inj hAx
            have h := hcx i (by omega)
            rw [HQ.out] at h
            rw [← HX1.out, ← HY1.out]
            exact h
          have fz := HO.out.frozenAt (hs.length * 2 + 1)
          have hsto := sto_cx X1 Y1
          have hcell : w5.cell? ⟨g, hs.length * 2 + 1, none⟩ = some (Value.complex .f64 (fl x) (fl y)) := by
            have h := HO.out.cells (g := g) rfl (hs.length * 2 + 1) (pt (x, y)) (hc_at hs fo (x, y))
            rwa [add_plain] at h
          go_wp2_with fail
          have hij := HIJ.out
          go_roundw
          case rel => exact ⟨i + 1, hs, some fo, by go_num, rfl, by omega, by omega, Lib.hid (by rw [show i + 1 - 1 = i from by omega]; simp only [Option.map_some, Option.toList_some, List.length_append, List.length_singleton]; exact HSET.out), HIN, by omega, HBS⟩
          case measure => simp [intOf]; omega

      · rw [fl_1, fl_0] at hsub
        have kk1 := k01_11
        have gd1 := eq_guardC .eql (.tmp 21) (.const (.complex .f64 4607182418800017408 4607182418800017408)) 0 4607182418800017408 4607182418800017408 4607182418800017408
        have HIN : Hid (hs ++ hkAt P (some (o.getD (x, y))) i = H) := Lib.hid (by
          rw [if_neg (by omega), ← HIJ.out] at HE
          exact HE)
        clear HE
        rcases o with _ | fo
        · have HRW0 : Hid (wr.ownsRow w0.heap.size 62 2 u3 hs.length (hc hs)) := Lib.hid (by have h := hrow.out; simpa using h)
          clear hrow
          go_wp2_with fail
          go_quiet (fail)
          have HRW : Hid ((wr.drewN nq).ownsRow w0.heap.size 62 2 u3 hs.length (hc hs)) := Lib.hid HRW0.out
          have HBW := Lib.hid (pw_below_drewN hbel.out nq)
          have k1' : (wr.drewN nq).cell? (ax.add j) = some (.complex .f64 (fl x) (fl y)) := k1
          clear k1 k2 hbel HRW0
          generalize wr.drewN nq = w3 at *
          go_wp2_with (
            at_builtin
            refine print_append_cells (w0 := w0) w0.heap.size rfl (.tmp 25) (.tmp 32) 38 62 (.agg #[.complex .f64 0 0, .complex .f64 0 0]) 2 32 rfl Try.underlying38 infoR rfl (by omega) (by omega) u3 hs.length (hc hs) [.complex .f64 (fl x) (fl y), .complex .f64 0 0] (by rfl) (by rfl) rfl (by intro u hu; simp at hu; rcases hu with rfl | rfl <;> rfl) HRW.out HBW.out HBW.out.size (by omega) ?_
            intro v1 w5 hown1 hbel1 hgrow hat1
            have HO : Hid (w5.ownsRow w0.heap.size 62 2 v1 (hs.length + 1) (hc (hs ++ [((x, y), (0, 0))]))) := Lib.hid (by rw [hc_append, hc_one, pt_00]; exact hown1)
            have HB5 := Lib.hid hbel1
            clear hown1 hbel1 hgrow hat1
            clear k1' HRW HBW
            obtain ⟨g, cap, rfl⟩ := own_pos HO.out (by omega)
            have HSET : Hid ((w5.setCell ⟨g, hs.length * 2 + 1, none⟩ (.complex .f64 X1 Y1)).ownsRow w0.heap.size 62 2 (.slice (some ⟨g, 0, none⟩) (hs.length + 1) cap) (hs.length + 1) (hc (hs ++ [((x, y), P.getD i (0, 0))]))) := Lib.hid (by
              have h := (HO.out.stored (hs.length * 2 + 1) (pt (P.getD i (0, 0)))).1
              rw [hc_set] at h
              rw [← HX1.out, ← HY1.out]
              rw [HQ.out] at h ⊢
              exact h)
            have HBS : Hid (Below w0.heap.size w0 (w5.setCell ⟨g, hs.length * 2 + 1, none⟩ (.complex .f64 X1 Y1))) := Lib.hid (HB5.out.setCell (own_base HO.out g rfl) _)
            have k2' : w5.cell? (ax.add i) = some (.complex .f64 X1 Y1) := by
              obtain ⟨ax', hAx, hcx⟩ := (HR.out.below HB5.out).2.2 (by omega)
              obtain rfl := Option.some.inj hAx
              have h := hcx i (by omega)
              rw [HQ.out] at h
              rw [← HX1.out, ← HY1.out]
              exact h
            have fz := HO.out.frozenAt (hs.length * 2 + 1)
            have hsto := sto_cx X1 Y1
            have hcell : w5.cell? ⟨g, hs.length * 2 + 1, none⟩ = some (Value.complex .f64 (fl 0) (fl 0)) := by
              have h := HO.out.cells (g := g) rfl (hs.length * 2 + 1) (pt (0, 0)) (hc_at hs (x, y) (0, 0))
              rwa [add_plain] at h
        )
          have hij := HIJ.out
          go_roundw
          case rel => exact ⟨i + 1, hs, some (x, y), by go_num, rfl, by omega, by omega, Lib.hid (by rw [show i + 1 - 1 = i from by omega]; simp only [Option.map_some, Option.toList_some, List.length_append, List.length_singleton]; exact HSET.out), HIN, by omega, HBS⟩
          case measure => simp [intOf]; omega
        · have HO0 : Hid (wr.ownsRow w0.heap.size 62 2 u3 (hs.length + 1) (hc (hs ++ [(fo, (x, y))]))) := Lib.hid (by have h := hrow.out; simpa using h)
          clear hrow
          obtain ⟨g, cap, rfl⟩ := own_pos HO0.out (by omega)
          go_wp2_with fail
          go_quiet (fail)
          have HO : Hid ((wr.drewN nq).ownsRow w0.heap.size 62 2 (.slice (some ⟨g, 0, none⟩) (hs.length + 1) cap) (hs.length + 1) (hc (hs ++ [(fo, (x, y))]))) := Lib.hid HO0.out
          have HB5 := Lib.hid (pw_below_drewN hbel.out nq)
          clear k1 k2 hbel HO0
          generalize wr.drewN nq = w5 at *
          have HSET : Hid ((w5.setCell ⟨g, hs.length * 2 + 1, none⟩ (.complex .f64 X1 Y1)).ownsRow w0.heap.size 62 2 (.slice (some ⟨g, 0, none⟩) (hs.length + 1) cap) (hs.length + 1) (hc (hs ++ [(fo, P.getD i (0, 0))]))) := Lib.hid (by
            have h := (HO.out.stored (hs.length * 2 + 1) (pt (P.getD i (0, 0)))).1
            rw [hc_set] at h
            rw [← HX1.out, ← HY1.out]
            rw [HQ.out] at h ⊢
            exact h)
          have HBS : Hid (Below w0.heap.size w0 (w5.setCell ⟨g, hs.length * 2 + 1, none⟩ (.complex .f64 X1 Y1))) := Lib.hid (HB5.out.setCell (own_base HO.out g rfl) _)
          have k2' : w5.cell? (ax.add i) = some (.complex .f64 X1 Y1) := by
            obtain ⟨ax', hAx, hcx⟩ := (HR.out.below HB5.out).2.2 (by omega)
            obtain rfl := Option.some.inj hAx
            have h := hcx i (by omega)
            rw [HQ.out] at h
            rw [← HX1.out, ← HY1.out]
            exact h
          have fz := HO.out.frozenAt (hs.length * 2 + 1)
          have hsto := sto_cx X1 Y1
          have hcell : w5.cell? ⟨g, hs.length * 2 + 1, none⟩ = some (Value.complex .f64 (fl x) (fl y)) := by
            have h := HO.out.cells (g := g) rfl (hs.length * 2 + 1) (pt (x, y)) (hc_at hs fo (x, y))
            rwa [add_plain] at h
          go_wp2_with fail
          have hij := HIJ.out
          go_roundw
          case rel => exact ⟨i + 1, hs, some fo, by go_num, rfl, by omega, by omega, Lib.hid (by rw [show i + 1 - 1 = i from by omega]; simp only [Option.map_some, Option.toList_some, List.length_append, List.length_singleton]; exact HSET.out), HIN, by omega, HBS⟩
          case measure => simp [intOf]; omega

    · obtain rfl : i = m := by omega
      have i1 : decide ((i : Int) < (i : Int)) = false := by simp
      have HFIN : Hid (hs ++ (o.map fun f => (f, P.getD j (0, 0))).toList = H) := Lib.hid (by
        have h := heq.out
        rw [hkAt_end _ (by rw [← HM.out]; exact hij)] at h
        rw [← h]
        cases o <;> rfl)
      clear heq
      go_wp2_with fail
      go_ret
      have hf := HFIN.out
      have hh := hrow.out
      rw [hf] at hh
      exact ⟨_, rfl, hh, hbel.out⟩
end Go.Proofs.Ytanfodjjfajobaa
