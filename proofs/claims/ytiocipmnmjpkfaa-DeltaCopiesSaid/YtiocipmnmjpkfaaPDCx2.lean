-- Written by fprint.py, a program of this session, over the translation. Not trusted: Lean checks it.
import Derived.Test.YtiocipmnmjpkfaaPDCx0
import Derived.Test.YtiocipmnmjpkfaaPDCx1
namespace Go.Proofs.Ytiocipmnmjpkfaa.PDC
open Go.RowKit Go.Proofs.YtiocipmnmjpkfaaW.PrintWords Go.Proofs.YtiocipmnmjpkfaaW.PrintLast Go.Proofs.YtiocipmnmjpkfaaW.PrintMore
attribute [local go_sem] max2_int min2_int max_two min_two max_three min_three max_four min_four   -- for this text's walks alone
set_option linter.unusedVariables false
set_option linter.unusedSimpArgs false

/-! ### codicillaw08_DeltaCopies: function 10 -/
mutual
def codicillaw08_DeltaCopies.j0 : Nat → Int → Int → Int → Bool → Option (Bool)
  | 0, _, _, _, _ => none
  | k + 1, x1, x2, x8, x40 => if x40 = true then (some false) else (if x8 = 0 then (if x1 > 3000 then (codicillaw08_DeltaCopies.j1 k x1 x2 true) else (codicillaw08_DeltaCopies.j1 k x1 x2 (decide (x2 > 3000)))) else (codicillaw08_DeltaCopies.j1 k x1 x2 true))
def codicillaw08_DeltaCopies.j1 : Nat → Int → Int → Bool → Option (Bool)
  | 0, _, _, _ => none
  | k + 1, x1, x2, x50 => if x50 = true then (some true) else (if 0 ≤ (wrap64 ((wrap64 (x1 + x2)) + 5)) then (if (wrap64 ((wrap64 (x1 + x2)) + 5) : Int).toNat ≤ 281474976710656 then ((some (List.replicate (wrap64 ((wrap64 (x1 + x2)) + 5) : Int).toNat 0 : List Int)).bind fun y133 => (codicillaw08_DeltaCopies.l0 k x1 x2 y133 (y133.length : Int) 0)) else (none)) else (none))
def codicillaw08_DeltaCopies.l0 : Nat → Int → Int → List Int → Int → Int → Option (Bool)
  | 0, _, _, _, _, _ => none
  | k + 1, x1, x2, x11, x57, x58 => if x58 < x57 then (if 0 ≤ x58 then (if x58 < (x11.length : Int) then (codicillaw08_DeltaCopies.l0 k x1 x2 (x11.set (x58 : Int).toNat ((wrap64 ((wrap64 (x58 * 7)) + (wrap64 (Int.tdiv x58 256)))) % 256)) x57 (wrap64 (x58 + 1))) else (none)) else (none)) else (if x2 ≥ 16384 then (some true) else ((delta_PutCopy.f (([((x11.length : Int) % 128) + 128, ((Int.tmod (wrap64 ((x11.length : Int) / 128)) 128) + 128) % 256, (wrap64 ((x11.length : Int) / 16384)) % 256, ((Int.tmod x2 128) + 128) % 256, (wrap64 (Int.tdiv x2 128)) % 256] : List Int)) x1 x2).bind fun bt140 => (if bt140.2 = 0 then ((delta_Apply.f x11 bt140.1 x2).bind fun bt144 => (if bt144.2 = 0 then (if 0 ≤ x1 then (if x1 ≤ (wrap64 (x1 + x2)) then (if (wrap64 (x1 + x2)) ≤ (x11.length : Int) then ((codicilref01_Same.f bt144.1 ((x11.take ((wrap64 (x1 + x2)) : Int).toNat).drop (x1 : Int).toNat)).bind fun t152 => (some t152)) else (none)) else (none)) else (none)) else (some false))) else (some false))))
end
def codicillaw08_DeltaCopies.f (k : Nat) (l0 : List Int) (a1 : Int) (a2 : Int) : Option (Bool) := (codicillaw08_awake.f).bind fun t120 => (if t120 = true then ((codicilref01_Twin.f l0).bind fun t121 => ((delta_PutCopy.f t121 a1 a2).bind fun bt124 => ((codicilref08_DocPutCopy.f l0 a1 a2).bind fun bt128 => ((codicilref01_Same.f bt124.1 bt128.1).bind fun t132 => (if t132 = true then (codicillaw08_DeltaCopies.j0 k a1 a2 bt124.2 (bt124.2 != bt128.2)) else (codicillaw08_DeltaCopies.j0 k a1 a2 bt124.2 true)))))) else (some false))
theorem codicillaw08_DeltaCopies.mono_l : ∀ k, (∀ y0 y1 y2 y3, LeO (codicillaw08_DeltaCopies.j0 k y0 y1 y2 y3) (codicillaw08_DeltaCopies.j0 (k + 1) y0 y1 y2 y3)) ∧ (∀ y0 y1 y2, LeO (codicillaw08_DeltaCopies.j1 k y0 y1 y2) (codicillaw08_DeltaCopies.j1 (k + 1) y0 y1 y2)) ∧ (∀ y0 y1 y2 y3 y4, LeO (codicillaw08_DeltaCopies.l0 k y0 y1 y2 y3 y4) (codicillaw08_DeltaCopies.l0 (k + 1) y0 y1 y2 y3 y4))
  | 0 => ⟨fun _ _ _ _ r h => by simp [codicillaw08_DeltaCopies.j0] at h, fun _ _ _ r h => by simp [codicillaw08_DeltaCopies.j1] at h, fun _ _ _ _ _ r h => by simp [codicillaw08_DeltaCopies.l0] at h⟩
  | k + 1 => by
    obtain ⟨ih0, ih1, ih2⟩ := codicillaw08_DeltaCopies.mono_l k
    refine ⟨?_, ?_, ?_⟩
    · intro y0 y1 y2 y3
      unfold codicillaw08_DeltaCopies.j0
      repeat' first
      | (with_reducible exact ih0 _ _ _ _)
      | (with_reducible exact ih1 _ _ _)
      | (with_reducible exact ih2 _ _ _ _ _)
      | (with_reducible exact LeO.refl _)
      | (with_reducible exact LeO.none _)
      | (with_reducible refine LeO.ite ?_ ?_)
      | (with_reducible refine LeO.bind ?_ (fun _ => ?_))
      | exact ih0 _ _ _ _
      | exact ih1 _ _ _
      | exact ih2 _ _ _ _ _
      | exact LeO.none _
      | refine LeO.ite ?_ ?_
      | refine LeO.bind ?_ (fun _ => ?_)
    · intro y0 y1 y2
      unfold codicillaw08_DeltaCopies.j1
      repeat' first
      | (with_reducible exact ih0 _ _ _ _)
      | (with_reducible exact ih1 _ _ _)
      | (with_reducible exact ih2 _ _ _ _ _)
      | (with_reducible exact LeO.refl _)
      | (with_reducible exact LeO.none _)
      | (with_reducible refine LeO.ite ?_ ?_)
      | (with_reducible refine LeO.bind ?_ (fun _ => ?_))
      | exact ih0 _ _ _ _
      | exact ih1 _ _ _
      | exact ih2 _ _ _ _ _
      | exact LeO.none _
      | refine LeO.ite ?_ ?_
      | refine LeO.bind ?_ (fun _ => ?_)
    · intro y0 y1 y2 y3 y4
      unfold codicillaw08_DeltaCopies.l0
      repeat' first
      | (with_reducible exact ih0 _ _ _ _)
      | (with_reducible exact ih1 _ _ _)
      | (with_reducible exact ih2 _ _ _ _ _)
      | (with_reducible exact LeO.refl _)
      | (with_reducible exact LeO.none _)
      | (with_reducible refine LeO.ite ?_ ?_)
      | (with_reducible refine LeO.bind ?_ (fun _ => ?_))
      | exact ih0 _ _ _ _
      | exact ih1 _ _ _
      | exact ih2 _ _ _ _ _
      | exact LeO.none _
      | refine LeO.ite ?_ ?_
      | refine LeO.bind ?_ (fun _ => ?_)
theorem codicillaw08_DeltaCopies.mono : ∀ a0 a1 a2 k, LeO (codicillaw08_DeltaCopies.f k a0 a1 a2) (codicillaw08_DeltaCopies.f (k + 1) a0 a1 a2) := by
  intro a0 a1 a2 k
  obtain ⟨ih0, ih1, ih2⟩ := codicillaw08_DeltaCopies.mono_l k
  unfold codicillaw08_DeltaCopies.f
  repeat' first
      | (with_reducible exact ih0 _ _ _ _)
      | (with_reducible exact ih1 _ _ _)
      | (with_reducible exact ih2 _ _ _ _ _)
      | (with_reducible exact LeO.refl _)
      | (with_reducible exact LeO.none _)
      | (with_reducible refine LeO.ite ?_ ?_)
      | (with_reducible refine LeO.bind ?_ (fun _ => ?_))
      | exact ih0 _ _ _ _
      | exact ih1 _ _ _
      | exact ih2 _ _ _ _ _
      | exact LeO.none _
      | refine LeO.ite ?_ ?_
      | refine LeO.bind ?_ (fun _ => ?_)
set_option maxHeartbeats 8000000 in
set_option maxRecDepth 100000 in
theorem codicillaw08_DeltaCopies.calls (k : Nat) (A0 : Option Addr) (c0 : Nat) (l0 : List Int) (a1 : Int) (a2 : Int) (r : Bool) (w : World) (hr0 : Kd.C (Kd.int .u8) w A0 l0.length l0) (hc0 : l0.length ≤ c0) (h : codicillaw08_DeltaCopies.f k l0 a1 a2 = some r) :
    Calls Try.prog 10 #[.slice A0 l0.length c0, .int .i64 a1, .int .i64 a2] w fun e w' => e = .returned (.bool r) ∧ Below w.heap.size w w' := by
  have HR0 := Aside0.mk hr0
  have HC0 := Aside0.mk hc0
  clear hr0 hc0
  have HB := Aside0.mk (Below.refl w.heap.size w)
  have H : ((codicillaw08_awake.f).bind fun t120 => (if t120 = true then ((codicilref01_Twin.f l0).bind fun t121 => ((delta_PutCopy.f t121 a1 a2).bind fun bt124 => ((codicilref08_DocPutCopy.f l0 a1 a2).bind fun bt128 => ((codicilref01_Same.f bt124.1 bt128.1).bind fun t132 => (if t132 = true then (codicillaw08_DeltaCopies.j0 k a1 a2 bt124.2 (bt124.2 != bt128.2)) else (codicillaw08_DeltaCopies.j0 k a1 a2 bt124.2 true)))))) else (some false))) = some r := h
  clear h
  replace H := Option.bind_eq_some_iff.mp H
  obtain ⟨t120, A40, H⟩ := H
  replace H : (if t120 = true then ((codicilref01_Twin.f l0).bind fun t121 => ((delta_PutCopy.f t121 a1 a2).bind fun bt124 => ((codicilref08_DocPutCopy.f l0 a1 a2).bind fun bt128 => ((codicilref01_Same.f bt124.1 bt128.1).bind fun t132 => (if t132 = true then (codicillaw08_DeltaCopies.j0 k a1 a2 bt124.2 (bt124.2 != bt128.2)) else (codicillaw08_DeltaCopies.j0 k a1 a2 bt124.2 true)))))) else (some false)) = some r := H
  have A4 := Aside0.mk A40
  clear A40
  by_cases c5 : t120 = true
  · subst c5
    have H1 : ((codicilref01_Twin.f l0).bind fun t121 => ((delta_PutCopy.f t121 a1 a2).bind fun bt124 => ((codicilref08_DocPutCopy.f l0 a1 a2).bind fun bt128 => ((codicilref01_Same.f bt124.1 bt128.1).bind fun t132 => (if t132 = true then (codicillaw08_DeltaCopies.j0 k a1 a2 bt124.2 (bt124.2 != bt128.2)) else (codicillaw08_DeltaCopies.j0 k a1 a2 bt124.2 true)))))) = some r := by rw [if_pos rfl] at H; exact H
    clear H
    have H := H1
    clear H1
    replace H := Option.bind_eq_some_iff.mp H
    obtain ⟨t121, A60, H⟩ := H
    replace H : ((delta_PutCopy.f t121 a1 a2).bind fun bt124 => ((codicilref08_DocPutCopy.f l0 a1 a2).bind fun bt128 => ((codicilref01_Same.f bt124.1 bt128.1).bind fun t132 => (if t132 = true then (codicillaw08_DeltaCopies.j0 k a1 a2 bt124.2 (bt124.2 != bt128.2)) else (codicillaw08_DeltaCopies.j0 k a1 a2 bt124.2 true))))) = some r := H
    have A6 := Aside0.mk A60
    clear A60
    replace H := Option.bind_eq_some_iff.mp H
    obtain ⟨⟨t124, t125⟩, A70, H⟩ := H
    replace H : ((codicilref08_DocPutCopy.f l0 a1 a2).bind fun bt128 => ((codicilref01_Same.f t124 bt128.1).bind fun t132 => (if t132 = true then (codicillaw08_DeltaCopies.j0 k a1 a2 t125 (t125 != bt128.2)) else (codicillaw08_DeltaCopies.j0 k a1 a2 t125 true)))) = some r := H
    have A7 := Aside0.mk A70
    clear A70
    replace H := Option.bind_eq_some_iff.mp H
    obtain ⟨⟨t128, t129⟩, A80, H⟩ := H
    replace H : ((codicilref01_Same.f t124 t128).bind fun t132 => (if t132 = true then (codicillaw08_DeltaCopies.j0 k a1 a2 t125 (t125 != t129)) else (codicillaw08_DeltaCopies.j0 k a1 a2 t125 true))) = some r := H
    have A8 := Aside0.mk A80
    clear A80
    have HC9 := Aside0.mk H
    clear H
    go_enter Try.func10, Try.ntmps10
    go_upto_region 5 with (first | ((with_reducible refine gate_callee (f := 36) rfl ?_); refine goesL_ (some 15) rfl rfl Try.func36 (by kernel_rfl) rfl #[] rfl (by (try simp only [List.map_toArray, List.map_cons, List.map_nil]); first | done | rfl | (simp only [List.length_drop, List.length_take]; rfl)) ?_; (with_reducible refine (codicillaw08_awake.calls  true _ A4.out).mono ?_); rintro e w10 ⟨rfl, hb⟩; refine ⟨_, rfl, ?_⟩; have n0_ := Aside0.mk (below_step (by repeat (first | (with_reducible first | exact HB.out | apply below_alloc | apply pw_below_drewN | apply below_drew1) | exact HB.out)) hb); clear HB; have HB := n0_; clear n0_; (try clear hb); (try clear hb2); (try clear hk); (try clear hi)) | ((with_reducible refine gate_callee (f := 17) rfl ?_); refine goesL_ (some 19) rfl rfl Try.func17 (by kernel_rfl) rfl #[.slice A0 l0.length c0] rfl (by (try simp only [List.map_toArray, List.map_cons, List.map_nil]); first | done | rfl | (simp only [List.length_drop, List.length_take]; rfl)) ?_; (with_reducible refine (codicilref01_Twin.calls _ _ l0 t121 _ ?side1 ?side2 A6.out).mono ?_); (case side1 => repeat (first | exact (Kd.C_below HR0.out HB.out) | (with_reducible refine Kd.C_alloc ?_ _) | (with_reducible refine Kd.C_drewN ?_ _) | (with_reducible refine Kd.C_drew ?_))); (case side2 => exact HC0.out); rintro e w11 ⟨v122, rfl, ho0, hb⟩; refine ⟨_, rfl, ?_⟩; have n0_ := Aside0.mk (Kd.R_lower ho0 (below_size (by repeat (first | (with_reducible first | exact HB.out | apply below_alloc | apply pw_below_drewN | apply below_drew1) | exact HB.out)))); have n1_ := Aside0.mk (below_step (by repeat (first | (with_reducible first | exact HB.out | apply below_alloc | apply pw_below_drewN | apply below_drew1) | exact HB.out)) hb); clear HB; have HO123 := n0_; have HB := n1_; clear n0_ n1_; (try clear hb); (try clear hb2); (try clear hk); (try clear hi); (try clear ho0); obtain ⟨Ao12, co12, eo12⟩ := Kd.R_slice HO123.out; subst eo12) | ((with_reducible refine gate_callee (f := 39) rfl ?_); refine goesL_ (some 22) rfl rfl Try.func39 (by kernel_rfl) rfl #[.slice Ao12 t121.length co12, .int .i64 a1, .int .i64 a2] rfl (by (try simp only [List.map_toArray, List.map_cons, List.map_nil]); first | done | rfl | (simp only [List.length_drop, List.length_take]; rfl)) ?_; (with_reducible refine (delta_PutCopy.calls _ _ t121 a1 a2 t124 t125 _ ?side1 ?side2 A7.out).mono ?_); (case side1 => repeat (first | exact (Kd.R_reads' HO123.out).2.2 | (with_reducible refine Kd.C_alloc ?_ _) | (with_reducible refine Kd.C_drewN ?_ _) | (with_reducible refine Kd.C_drew ?_))); (case side2 => exact (Kd.R_reads' HO123.out).2.1); rintro e w13 ⟨v126, rfl, ho0, hb⟩; refine ⟨_, rfl, ?_⟩; have n0_ := Aside0.mk (Kd.R_elder' (by (with_reducible repeat (first | apply Kd.R_alloc | apply Kd.R_drewN | apply Kd.R_drew)); exact HO123.out) (Kd.R_base ho0) hb); have n1_ := Aside0.mk (Kd.R_lower (Kd.R_new' ho0 (Kd.R_lt (by (with_reducible repeat (first | apply Kd.R_alloc | apply Kd.R_drewN | apply Kd.R_drew)); exact HO123.out))) (below_size (by repeat (first | (with_reducible first | exact HB.out | apply below_alloc | apply pw_below_drewN | apply below_drew1) | exact HB.out)))); have n2_ := Aside0.mk (below_step (by repeat (first | (with_reducible first | exact HB.out | apply below_alloc | apply pw_below_drewN | apply below_drew1) | exact HB.out)) hb); clear HO123; clear HB; have HO123 := n0_; have HO127 := n1_; have HB := n2_; clear n0_ n1_ n2_; (try clear hb); (try clear hb2); (try clear hk); (try clear hi); (try clear ho0)) | ((with_reducible refine gate_callee (f := 40) rfl ?_); refine goesL_ (some 29) rfl rfl Try.func40 (by kernel_rfl) rfl #[.slice A0 l0.length c0, .int .i64 a1, .int .i64 a2] rfl (by (try simp only [List.map_toArray, List.map_cons, List.map_nil]); first | done | rfl | (simp only [List.length_drop, List.length_take]; rfl)) ?_; (with_reducible refine (codicilref08_DocPutCopy.calls _ _ l0 a1 a2 t128 t129 _ ?side1 ?side2 A8.out).mono ?_); (case side1 => repeat (first | exact (Kd.C_below HR0.out HB.out) | (with_reducible refine Kd.C_alloc ?_ _) | (with_reducible refine Kd.C_drewN ?_ _) | (with_reducible refine Kd.C_drew ?_))); (case side2 => exact HC0.out); rintro e w14 ⟨v130, rfl, ho0, hb⟩; refine ⟨_, rfl, ?_⟩; have n0_ := Aside0.mk (Kd.R_elder' (by (with_reducible repeat (first | apply Kd.R_alloc | apply Kd.R_drewN | apply Kd.R_drew)); exact HO123.out) (Kd.R_base ho0) hb); have n1_ := Aside0.mk (Kd.R_elder' (by (with_reducible repeat (first | apply Kd.R_alloc | apply Kd.R_drewN | apply Kd.R_drew)); exact HO127.out) (Kd.R_base ho0) hb); have n2_ := Aside0.mk (Kd.R_lower (Kd.R_new' (Kd.R_new' ho0 (Kd.R_lt (by (with_reducible repeat (first | apply Kd.R_alloc | apply Kd.R_drewN | apply Kd.R_drew)); exact HO123.out))) (Kd.R_lt (by (with_reducible repeat (first | apply Kd.R_alloc | apply Kd.R_drewN | apply Kd.R_drew)); exact HO127.out))) (below_size (by repeat (first | (with_reducible first | exact HB.out | apply below_alloc | apply pw_below_drewN | apply below_drew1) | exact HB.out)))); have n3_ := Aside0.mk (below_step (by repeat (first | (with_reducible first | exact HB.out | apply below_alloc | apply pw_below_drewN | apply below_drew1) | exact HB.out)) hb); clear HO123; clear HO127; clear HB; have HO123 := n0_; have HO127 := n1_; have HO131 := n2_; have HB := n3_; clear n0_ n1_ n2_ n3_; (try clear hb); (try clear hb2); (try clear hk); (try clear hi); (try clear ho0)))
    (try simp only [Act.put, List.setIfInBounds_toArray, List.set_cons_zero, List.set_cons_succ])
    go_cut [40] (fun v40 wc => ∃ (kq : Nat) (x40_8 : Bool), v40 = .bool x40_8 ∧ Aside0 (codicillaw08_DeltaCopies.j0 kq a1 a2 t125 x40_8 = some r) ∧ Aside0 (kq ≤ k) ∧ Aside0 (Below w.heap.size w wc))
    case first =>
      have H := HC9.out
      clear HC9
      replace H := Option.bind_eq_some_iff.mp H
      obtain ⟨t132, A150, H⟩ := H
      replace H : (if t132 = true then (codicillaw08_DeltaCopies.j0 k a1 a2 t125 (t125 != t129)) else (codicillaw08_DeltaCopies.j0 k a1 a2 t125 true)) = some r := H
      have A15 := Aside0.mk A150
      clear A150
      by_cases c16 : t132 = true
      · subst c16
        have H1 : (codicillaw08_DeltaCopies.j0 k a1 a2 t125 (t125 != t129)) = some r := by rw [if_pos rfl] at H; exact H
        clear H
        have H := H1
        clear H1
        have H' := Aside0.mk H
        clear H
        obtain ⟨Ao17, co17, eo17⟩ := Kd.R_slice HO127.out
        subst eo17
        obtain ⟨Ao18, co18, eo18⟩ := Kd.R_slice HO131.out
        subst eo18
        go_wp2_with (first | ((with_reducible refine gate_callee (f := 21) rfl ?_); refine goesL_ (some 34) rfl rfl Try.func21 (by kernel_rfl) rfl #[.slice Ao17 t124.length co17, .slice Ao18 t128.length co18] rfl (by (try simp only [List.map_toArray, List.map_cons, List.map_nil]); first | done | rfl | (simp only [List.length_drop, List.length_take]; rfl)) ?_; (with_reducible refine (codicilref01_Same.calls _ _ t124 _ _ t128 true _ ?side1 ?side2 ?side3 ?side4 A15.out).mono ?_); (case side1 => repeat (first | exact (Kd.R_reads' HO127.out).2.2 | (with_reducible refine Kd.C_alloc ?_ _) | (with_reducible refine Kd.C_drewN ?_ _) | (with_reducible refine Kd.C_drew ?_))); (case side2 => exact (Kd.R_reads' HO127.out).2.1); (case side3 => repeat (first | exact (Kd.R_reads' HO131.out).2.2 | (with_reducible refine Kd.C_alloc ?_ _) | (with_reducible refine Kd.C_drewN ?_ _) | (with_reducible refine Kd.C_drew ?_))); (case side4 => exact (Kd.R_reads' HO131.out).2.1); rintro e w' ⟨rfl, ⟨nd, rfl⟩⟩; refine ⟨_, rfl, ?_⟩))
        go_meet
        case rel => exact ⟨_, ((t125 != t129)), (by first | rfl | (simp; done) | (simp [*]; done)), H', ⟨by first | omega | exact Nat.le_refl _⟩, ⟨by repeat (first | (with_reducible first | exact HB.out | apply below_alloc | apply pw_below_drewN | apply below_drew1) | exact HB.out)⟩⟩
      · replace c16 := Bool.eq_false_iff.mpr c16
        subst c16
        have H1 : (codicillaw08_DeltaCopies.j0 k a1 a2 t125 true) = some r := by rw [if_neg (show ¬ (false = true) by decide)] at H; exact H
        clear H
        have H := H1
        clear H1
        have H' := Aside0.mk H
        clear H
        obtain ⟨Ao19, co19, eo19⟩ := Kd.R_slice HO127.out
        subst eo19
        obtain ⟨Ao20, co20, eo20⟩ := Kd.R_slice HO131.out
        subst eo20
        go_wp2_with (first | ((with_reducible refine gate_callee (f := 21) rfl ?_); refine goesL_ (some 34) rfl rfl Try.func21 (by kernel_rfl) rfl #[.slice Ao19 t124.length co19, .slice Ao20 t128.length co20] rfl (by (try simp only [List.map_toArray, List.map_cons, List.map_nil]); first | done | rfl | (simp only [List.length_drop, List.length_take]; rfl)) ?_; (with_reducible refine (codicilref01_Same.calls _ _ t124 _ _ t128 false _ ?side1 ?side2 ?side3 ?side4 A15.out).mono ?_); (case side1 => repeat (first | exact (Kd.R_reads' HO127.out).2.2 | (with_reducible refine Kd.C_alloc ?_ _) | (with_reducible refine Kd.C_drewN ?_ _) | (with_reducible refine Kd.C_drew ?_))); (case side2 => exact (Kd.R_reads' HO127.out).2.1); (case side3 => repeat (first | exact (Kd.R_reads' HO131.out).2.2 | (with_reducible refine Kd.C_alloc ?_ _) | (with_reducible refine Kd.C_drewN ?_ _) | (with_reducible refine Kd.C_drew ?_))); (case side4 => exact (Kd.R_reads' HO131.out).2.1); rintro e w' ⟨rfl, ⟨nd, rfl⟩⟩; refine ⟨_, rfl, ?_⟩))
        go_meet
        case rel => exact ⟨_, (true), (by first | rfl | (simp; done) | (simp [*]; done)), H', ⟨by first | omega | exact Nat.le_refl _⟩, ⟨by repeat (first | (with_reducible first | exact HB.out | apply below_alloc | apply pw_below_drewN | apply below_drew1) | exact HB.out)⟩⟩
    case rest =>
      clear HC9
      try clear c1
      try clear c2
      try clear p2
      try clear c3
      try clear c4
      try clear c5
      try clear c10
      try clear c16
      try clear c17
      obtain ⟨kq, x40_8, rfl, HA, HJ8, HB⟩ := hcut
      cases kq with
      | zero => exact absurd HA.out (by simp [codicillaw08_DeltaCopies.j0])
      | succ kj8 =>
        have H := HA.out
        clear HA
        simp only [codicillaw08_DeltaCopies.j0] at H
        by_cases c21 : x40_8 = true
        · subst c21
          have H1 : (some false) = some r := by rw [if_pos rfl] at H; exact H
          clear H
          have H := H1
          clear H1
          obtain rfl := Option.some.inj H
          go_wp2
          go_ret
          exact ⟨by first | rfl | (simp [errW_none, errW_some] <;> rfl) | (simp [*, errW_none, errW_some] <;> rfl), by repeat (first | (with_reducible first | exact HB.out | apply below_alloc | apply pw_below_drewN | apply below_drew1) | exact HB.out)⟩
        · replace c21 := Bool.eq_false_iff.mpr c21
          subst c21
          have H1 : (if t125 = 0 then (if a1 > 3000 then (codicillaw08_DeltaCopies.j1 kj8 a1 a2 true) else (codicillaw08_DeltaCopies.j1 kj8 a1 a2 (decide (a2 > 3000)))) else (codicillaw08_DeltaCopies.j1 kj8 a1 a2 true)) = some r := by rw [if_neg (show ¬ (false = true) by decide)] at H; exact H
          clear H
          have H := H1
          clear H1
          have HC22 := Aside0.mk H
          clear H
          go_upto_region 7 with (fail)
          go_cut [50] (fun v50 wc => ∃ (kq : Nat) (x50_21 : Bool), v50 = .bool x50_21 ∧ Aside0 (codicillaw08_DeltaCopies.j1 kq a1 a2 x50_21 = some r) ∧ Aside0 (kq ≤ kj8) ∧ Aside0 (Below w.heap.size w wc))
          case first =>
            have H := HC22.out
            clear HC22
            by_cases c23 : t125 = 0
            · rw [if_pos c23] at H
              have c23b0 : (t125 == 0) = true := beq_iff_eq.mpr c23
              have c23b1 : (t125 != 0) = false := bne_eq_false_iff_eq.mpr c23
              clear c23
              (first | rw [c23b0] | (simp only [i64_w, i32_w]; rw [c23b0]) | skip)
              by_cases c24 : a1 > 3000
              · rw [if_pos c24] at H
                have c24b0 : decide (3000 < a1) = true := decide_eq_true c24
                clear c24
                have H' := Aside0.mk H
                clear H
                go_wp2
                go_meet
                case rel => exact ⟨_, (true), (by first | rfl | (simp; done) | (simp [*]; done)), H', ⟨by have := HJ8.out; first | omega | exact Nat.le_refl _⟩, ⟨by repeat (first | (with_reducible first | exact HB.out | apply below_alloc | apply pw_below_drewN | apply below_drew1) | exact HB.out)⟩⟩
              · rw [if_neg c24] at H
                have c24b0 : decide (3000 < a1) = false := decide_eq_false c24
                clear c24
                have H' := Aside0.mk H
                clear H
                go_wp2
                go_meet
                case rel => exact ⟨_, (decide (a2 > 3000)), (by first | rfl | (simp; done) | (simp [*]; done)), H', ⟨by have := HJ8.out; first | omega | exact Nat.le_refl _⟩, ⟨by repeat (first | (with_reducible first | exact HB.out | apply below_alloc | apply pw_below_drewN | apply below_drew1) | exact HB.out)⟩⟩
            · rw [if_neg c23] at H
              have c23b0 : (t125 == 0) = false := beq_eq_false_iff_ne.mpr c23
              have c23b1 : (t125 != 0) = true := bne_iff_ne.mpr c23
              (first | rw [c23b0] | (simp only [i64_w, i32_w]; rw [c23b0]) | skip)
              have H' := Aside0.mk H
              clear H
              go_wp2
              go_meet
              case rel => exact ⟨_, (true), (by first | rfl | (simp; done) | (simp [*]; done)), H', ⟨by have := HJ8.out; first | omega | exact Nat.le_refl _⟩, ⟨by repeat (first | (with_reducible first | exact HB.out | apply below_alloc | apply pw_below_drewN | apply below_drew1) | exact HB.out)⟩⟩
          case rest =>
            clear HC22
            try clear c1
            try clear c2
            try clear p2
            try clear c3
            try clear c4
            try clear c5
            try clear c10
            try clear c16
            try clear c17
            try clear c21
            try clear c23
            try clear c23b0
            try clear c23b1
            try clear c24
            try clear c24b0
            try clear p2
            obtain ⟨kq, x50_21, rfl, HA, HJ21, HB⟩ := hcut
            cases kq with
            | zero => exact absurd HA.out (by simp [codicillaw08_DeltaCopies.j1])
            | succ kj21 =>
              have H := HA.out
              clear HA
              simp only [codicillaw08_DeltaCopies.j1] at H
              by_cases c25 : x50_21 = true
              · subst c25
                have H1 : (some true) = some r := by rw [if_pos rfl] at H; exact H
                clear H
                have H := H1
                clear H1
                obtain rfl := Option.some.inj H
                go_wp2
                go_ret
                exact ⟨by first | rfl | (simp [errW_none, errW_some] <;> rfl) | (simp [*, errW_none, errW_some] <;> rfl), by repeat (first | (with_reducible first | exact HB.out | apply below_alloc | apply pw_below_drewN | apply below_drew1) | exact HB.out)⟩
              · replace c25 := Bool.eq_false_iff.mpr c25
                subst c25
                have H1 : (if 0 ≤ (wrap64 ((wrap64 (a1 + a2)) + 5)) then (if (wrap64 ((wrap64 (a1 + a2)) + 5) : Int).toNat ≤ 281474976710656 then ((some (List.replicate (wrap64 ((wrap64 (a1 + a2)) + 5) : Int).toNat 0 : List Int)).bind fun y133 => (codicillaw08_DeltaCopies.l0 kj21 a1 a2 y133 (y133.length : Int) 0)) else (none)) else (none)) = some r := by rw [if_neg (show ¬ (false = true) by decide)] at H; exact H
                clear H
                have H := H1
                clear H1
                obtain ⟨ji26, hji26⟩ : ∃ j_ : Int, (wrap64 ((wrap64 (a1 + a2)) + 5)) = j_ := ⟨_, rfl⟩
                replace H : (if 0 ≤ (ji26) then (if (ji26 : Int).toNat ≤ 281474976710656 then ((some (List.replicate (ji26 : Int).toNat 0 : List Int)).bind fun y133 => (codicillaw08_DeltaCopies.l0 kj21 a1 a2 y133 (y133.length : Int) 0)) else (none)) else (none)) = some r := by first | (rw [hji26] at H; exact H) | (simp only [hji26] at H ⊢; exact H)
                have hji26w : (IntKind.i64.wrap ((wrap64 (a1 + a2)) + 5)) = ji26 := (i64_w _).trans hji26
                by_cases c27 : 0 ≤ (ji26)
                · rw [if_pos c27] at H
                  have c27b0 := eq_true c27
                  have c27b1 : decide (0 ≤ (ji26)) = true := decide_eq_true c27
                  clear c27
                  by_cases c28 : (ji26 : Int).toNat ≤ 281474976710656
                  · rw [if_pos c28] at H
                    have c28b0 := eq_true c28
                    have c28b1 : decide ((ji26 : Int).toNat ≤ 281474976710656) = true := decide_eq_true c28
                    clear c28
                    obtain ⟨y133, hy133⟩ : ∃ y_ : List Int, y_ = (List.replicate (ji26 : Int).toNat 0) := ⟨_, rfl⟩
                    replace H : (codicillaw08_DeltaCopies.l0 kj21 a1 a2 y133 (y133.length : Int) 0) = some r := by first | (rw [hy133]; with_reducible exact H) | (have H2_ := (Option.bind_some _ _).symm.trans H; rw [hy133]; with_reducible exact H2_) | (have H2_ := (Option.bind_some _ _).symm.trans H; with_reducible exact H2_) | with_reducible exact H | (rw [hy133]; exact H) | exact H
                    have Ny133 := Aside0.mk hy133
                    clear hy133
                    have H' := Aside0.mk H
                    clear H
                    go_wp2_with (first | ((with_reducible refine gate_dst (N := 55) rfl ?_); refine Kd.R_make (Kd.int .u8) _ 5 rfl (N := 55) rfl 22 _ _ rfl ji26 rfl rfl Try.underlying22 (.int .u8 0) 1 info5 rfl (by decide) (by omega) 0 (ok := fun _ => True) (okp := fun _ => True) rfl (fun _ hk => hk) trivial (of_decide_eq_true (by first | (with_reducible assumption) | assumption)) (Nat.le_trans (Nat.mul_le_mul_right _ (of_decide_eq_true (by first | (with_reducible assumption) | assumption) : ji26.toNat ≤ 281474976710656)) (by omega)) (Below.refl _ _) (Nat.le_refl _) ?_; intro v134 w29 ho30 hb hg_ hnew_; clear hg_ hnew_; (first | rw [← Ny133.out] at ho30 | (simp only [Int.reduceToNat] at ho30; rw [← Ny133.out] at ho30)); have n0_ := Aside0.mk (Kd.R_lower ho30 (below_size (by repeat (first | (with_reducible first | exact HB.out | apply below_alloc | apply pw_below_drewN | apply below_drew1) | exact HB.out)))); have n1_ := Aside0.mk (below_step (by repeat (first | (with_reducible first | exact HB.out | apply below_alloc | apply pw_below_drewN | apply below_drew1) | exact HB.out)) hb); clear HB; have HO135 := n0_; have HB := n1_; clear n0_ n1_; clear hb ho30; obtain ⟨Ao31, co31, eo31⟩ := Kd.R_slice HO135.out; subst eo31))
                    go_loopg [58] kj21 (fun kq v58 w' => ∃ (x11_3 : List Int) (x58_3 : Int), v58 = .int .i64 x58_3 ∧ Aside0 (codicillaw08_DeltaCopies.l0 kq a1 a2 x11_3 (y133.length : Int) x58_3 = some r) ∧ Aside0 (kq ≤ kj21) ∧ Aside0 (Kd.R (Kd.int .u8) 5 w' w.heap.size (fun _ => True) (.slice Ao31 y133.length co31) x11_3) ∧ Aside0 (Below w.heap.size w w'))
                    case atStart => exact ⟨(y133), (0), (by first | rfl | (simp; done) | (simp [*]; done)), H', ⟨Nat.le_refl _⟩, ⟨by (with_reducible repeat (first | apply Kd.R_alloc | apply Kd.R_drewN | apply Kd.R_drew)); exact HO135.out⟩, ⟨by repeat (first | (with_reducible first | exact HB.out | apply below_alloc | apply pw_below_drewN | apply below_drew1) | exact HB.out)⟩⟩
                    case round =>
                      clear H'
                      try clear c1
                      try clear c2
                      try clear p2
                      try clear c3
                      try clear c4
                      try clear c5
                      try clear p6
                      try clear c10
                      try clear c16
                      try clear c17
                      try clear c21
                      try clear c23
                      try clear c23b0
                      try clear c23b1
                      try clear c24
                      try clear c24b0
                      try clear c25
                      try clear c27
                      try clear c27b0
                      try clear c27b1
                      try clear c28
                      try clear c28b0
                      try clear c28b1
                      try clear p2
                      obtain ⟨x11_3, x58_3, rfl, HA, HK3, HO_11, HB⟩ := hrel
                      have hl11_3 := (Kd.R_reads' HO_11.out).1
                      rw [hl11_3] at HO_11
                      (try simp only [hl11_3])
                      cases gk with
                      | zero => exact absurd HA.out (by simp [codicillaw08_DeltaCopies.l0])
                      | succ k3 =>
                        have H := HA.out
                        clear HA
                        simp only [codicillaw08_DeltaCopies.l0] at H
                        by_cases c32 : x58_3 < (y133.length : Int)
                        · rw [if_pos c32] at H
                          have c32b0 : decide (x58_3 < (y133.length : Int)) = true := decide_eq_true c32
                          have c32b1 : decide (x58_3 < (x11_3.length : Int)) = true := by rw [← hl11_3]; exact c32b0
                          clear c32
                          by_cases c33 : 0 ≤ x58_3
                          · rw [if_pos c33] at H
                            have c33b0 : decide (0 ≤ x58_3) = true := decide_eq_true c33
                            clear c33
                            by_cases c34 : x58_3 < (x11_3.length : Int)
                            · rw [if_pos c34] at H
                              have c34b0 : decide (x58_3 < (x11_3.length : Int)) = true := decide_eq_true c34
                              clear c34
                              obtain ⟨y136, hy136⟩ : ∃ y_ : List Int, y_ = (x11_3.set (x58_3 : Int).toNat ((wrap64 ((wrap64 (x58_3 * 7)) + (wrap64 (Int.tdiv x58_3 256)))) % 256)) := ⟨_, rfl⟩
                              replace H : (codicillaw08_DeltaCopies.l0 k3 a1 a2 y136 (y133.length : Int) (wrap64 (x58_3 + 1))) = some r := by first | (rw [hy136]; with_reducible exact H) | (have H2_ := (Option.bind_some _ _).symm.trans H; rw [hy136]; with_reducible exact H2_) | (have H2_ := (Option.bind_some _ _).symm.trans H; with_reducible exact H2_) | with_reducible exact H | (rw [hy136]; exact H) | exact H
                              have Ny136 := Aside0.mk hy136
                              clear hy136
                              have H' := Aside0.mk H
                              clear H
                              have p35 : 0 ≤ (x58_3 : Int) := of_decide_eq_true (by first | (with_reducible assumption) | assumption)
                              have q35 : (x58_3 : Int) < ((x11_3.length : Int) : Int) := of_decide_eq_true (by first | (with_reducible assumption) | assumption)
                              obtain ⟨go35, co35, eo35, gb35, gl35, cl35, HG35⟩ := Kd.R_form HO_11.out (by omega)
                              (first | cases eo35 | (injection eo35 with ea_ en_ ec_; (first | subst ea_ | (injection ea_ with ea_; subst ea_)); subst ec_; clear en_))
                              have GB35 := Aside0.mk gb35
                              have GG35 := Aside0.mk HG35
                              clear gb35 gl35 HG35
                              obtain ⟨hx35_0, hf35_0⟩ := Kd.R_celln 0 HO_11.out (x58_3 : Int) p35 q35
                              replace p35 := eq_true p35
                              replace q35 := eq_true q35
                              have HP36 := Kd.R_putg HO_11.out (x58_3 : Int) ((wrap64 ((wrap64 (x58_3 * 7)) + (wrap64 (Int.tdiv x58_3 256)))) % 256)
                              go_wp2_with (first | ((with_reducible refine gate_store (t := 5) (p := 69) rfl ?_); refine store_event (t := 5) (p := 69) (v := ?vo_w37) (w1 := (wr.setCell ⟨go35, (x58_3 : Int).toNat, none⟩ (.int .u8 ((wrap64 ((wrap64 (x58_3 * 7)) + (wrap64 (Int.tdiv x58_3 256)))) % 256)))) ?hg ?ho ?hn ?hr ?_; (case ho => rfl); (case hg => rfl); (case hn => rfl); (case hr => first | (go_simp; done) | (go_simp; rfl)); intro w37 hw; have hg : wr.grownBy w37 (some go35) := (by rw [hw]; exact HP36.2); have hp_ : Kd.R (Kd.int .u8) 5 w37 w.heap.size (fun _ => True) (.slice (some ⟨go35, 0, none⟩) x11_3.length co31) y136 := (by rw [hw, Ny136.out]; exact HP36.1); clear HP36; have n0_ := Aside0.mk (hp_); have n1_ := Aside0.mk ((by rw [hw]; exact below_set (HB.out) GB35.out : Below w.heap.size w w37)); clear HO_11; clear HB; have HO_11 := n0_; have HB := n1_; clear n0_ n1_; clear hg hw hp_))
                              (try simp only [← hl11_3])
                              go_roundg k3
                              case measure => have := HJ8.out; have := HJ21.out; have := HK3.out; omega
                              case rel => exact ⟨(y136), (wrap64 (x58_3 + 1)), (by first | rfl | (simp; done) | (simp [*]; done)), H', ⟨by have := HJ8.out; have := HJ21.out; have := HK3.out; omega⟩, ⟨by (try simp only [hl11_3]); (with_reducible repeat (first | apply Kd.R_alloc | apply Kd.R_drewN | apply Kd.R_drew)); exact HO_11.out⟩, ⟨by repeat (first | (with_reducible first | exact HB.out | apply below_alloc | apply pw_below_drewN | apply below_drew1) | exact HB.out)⟩⟩
                            · rw [if_neg c34] at H
                              exact absurd H (by simp)
                          · rw [if_neg c33] at H
                            exact absurd H (by simp)
                        · rw [if_neg c32] at H
                          have c32b0 : decide (x58_3 < (y133.length : Int)) = false := decide_eq_false c32
                          have c32b1 : decide (x58_3 < (x11_3.length : Int)) = false := by rw [← hl11_3]; exact c32b0
                          clear c32
                          obtain ⟨y137, hy137⟩ : ∃ y_ : List Int, y_ = (([((x11_3.length : Int) % 128) + 128, ((Int.tmod (wrap64 ((x11_3.length : Int) / 128)) 128) + 128) % 256, (wrap64 ((x11_3.length : Int) / 16384)) % 256, ((Int.tmod a2 128) + 128) % 256, (wrap64 (Int.tdiv a2 128)) % 256] : List Int)) := ⟨_, rfl⟩
                          replace H : (if a2 ≥ 16384 then (some true) else ((delta_PutCopy.f y137 a1 a2).bind fun bt140 => (if bt140.2 = 0 then ((delta_Apply.f x11_3 bt140.1 a2).bind fun bt144 => (if bt144.2 = 0 then (if 0 ≤ a1 then (if a1 ≤ (wrap64 (a1 + a2)) then (if (wrap64 (a1 + a2)) ≤ (x11_3.length : Int) then ((codicilref01_Same.f bt144.1 ((x11_3.take ((wrap64 (a1 + a2)) : Int).toNat).drop (a1 : Int).toNat)).bind fun t152 => (some t152)) else (none)) else (none)) else (none)) else (some false))) else (some false)))) = some r := by first | (rw [hy137]; with_reducible exact H) | (have H2_ := (Option.bind_some _ _).symm.trans H; rw [hy137]; with_reducible exact H2_) | (have H2_ := (Option.bind_some _ _).symm.trans H; with_reducible exact H2_) | with_reducible exact H | (rw [hy137]; exact H) | exact H
                          have Ny137 := Aside0.mk hy137
                          clear hy137
                          by_cases c38 : a2 ≥ 16384
                          · rw [if_pos c38] at H
                            have c38b0 : decide (16384 ≤ a2) = true := decide_eq_true c38
                            clear c38
                            obtain rfl := Option.some.inj H
                            go_wp2_with (first | ((with_reducible refine gate_dst (N := 93) rfl ?_); refine Kd.R_lit (Kd.int .u8) _ 5 ?hg (N := 93) ?hd (xs := ([((x11_3.length : Int) % 128) + 128, ((Int.tmod (wrap64 ((x11_3.length : Int) / 128)) 128) + 128) % 256, (wrap64 ((x11_3.length : Int) / 16384)) % 256, ((Int.tmod a2 128) + 128) % 256, (wrap64 (Int.tdiv a2 128)) % 256] : List Int)) (inner := [.int .u8 (((x11_3.length : Int) % 128) + 128), .int .u8 (((Int.tmod (wrap64 ((x11_3.length : Int) / 128)) 128) + 128) % 256), .int .u8 ((wrap64 ((x11_3.length : Int) / 16384)) % 256), .int .u8 (((Int.tmod a2 128) + 128) % 256), .int .u8 ((wrap64 (Int.tdiv a2 128)) % 256)]) (ok := fun _ => True) (okp := fun _ => True) ?hr ?hp (fun _ hk => hk) trivial (Below.refl _ _) (Nat.le_refl _) (by simp) ?_; (case hd => rfl); (case hg => rfl); (case hr => first | (go_simp; done) | (go_simp; rfl)); (case hp => exact (Reps.one (show Kd.M (Kd.int .u8) _ _ _ (((x11_3.length : Int) % 128) + 128) [.int .u8 (((x11_3.length : Int) % 128) + 128)] from rfl) (Reps.one (show Kd.M (Kd.int .u8) _ _ _ (((Int.tmod (wrap64 ((x11_3.length : Int) / 128)) 128) + 128) % 256) [.int .u8 (((Int.tmod (wrap64 ((x11_3.length : Int) / 128)) 128) + 128) % 256)] from rfl) (Reps.one (show Kd.M (Kd.int .u8) _ _ _ ((wrap64 ((x11_3.length : Int) / 16384)) % 256) [.int .u8 ((wrap64 ((x11_3.length : Int) / 16384)) % 256)] from rfl) (Reps.one (show Kd.M (Kd.int .u8) _ _ _ (((Int.tmod a2 128) + 128) % 256) [.int .u8 (((Int.tmod a2 128) + 128) % 256)] from rfl) (Reps.one (show Kd.M (Kd.int .u8) _ _ _ ((wrap64 (Int.tdiv a2 128)) % 256) [.int .u8 ((wrap64 (Int.tdiv a2 128)) % 256)] from rfl) (Reps.none _ _))))))); intro v138 w39 ho40 hb hg_ hnew_; clear hg_ hnew_; (first | rw [← Ny137.out] at ho40 | (simp only [Int.reduceToNat] at ho40; rw [← Ny137.out] at ho40)); have n0_ := Aside0.mk (Kd.R_elder' (by (with_reducible repeat (first | apply Kd.R_alloc | apply Kd.R_drewN | apply Kd.R_drew)); exact HO_11.out) (Kd.R_base ho40) hb); have n1_ := Aside0.mk (Kd.R_lower (Kd.R_new' ho40 (Kd.R_lt (by (with_reducible repeat (first | apply Kd.R_alloc | apply Kd.R_drewN | apply Kd.R_drew)); exact HO_11.out))) (below_size (by repeat (first | (with_reducible first | exact HB.out | apply below_alloc | apply pw_below_drewN | apply below_drew1) | exact HB.out)))); have n2_ := Aside0.mk (below_step (by repeat (first | (with_reducible first | exact HB.out | apply below_alloc | apply pw_below_drewN | apply below_drew1) | exact HB.out)) hb); clear HO_11; clear HB; have HO_11 := n0_; have HO139 := n1_; have HB := n2_; clear n0_ n1_ n2_; clear hb ho40))
                            go_ret
                            exact ⟨by first | rfl | (simp [errW_none, errW_some] <;> rfl) | (simp only [← hji26]; first | rfl | (simp [errW_none, errW_some] <;> rfl)) | (simp [*, errW_none, errW_some] <;> rfl), by repeat (first | (with_reducible first | exact HB.out | apply below_alloc | apply pw_below_drewN | apply below_drew1) | exact HB.out)⟩
                          · rw [if_neg c38] at H
                            have c38b0 : decide (16384 ≤ a2) = false := decide_eq_false c38
                            clear c38
                            replace H := Option.bind_eq_some_iff.mp H
                            obtain ⟨⟨t140, t141⟩, A410, H⟩ := H
                            replace H : (if t141 = 0 then ((delta_Apply.f x11_3 t140 a2).bind fun bt144 => (if bt144.2 = 0 then (if 0 ≤ a1 then (if a1 ≤ (wrap64 (a1 + a2)) then (if (wrap64 (a1 + a2)) ≤ (x11_3.length : Int) then ((codicilref01_Same.f bt144.1 ((x11_3.take ((wrap64 (a1 + a2)) : Int).toNat).drop (a1 : Int).toNat)).bind fun t152 => (some t152)) else (none)) else (none)) else (none)) else (some false))) else (some false)) = some r := H
                            have A41 := Aside0.mk A410
                            clear A410
                            by_cases c42 : t141 = 0
                            · rw [if_pos c42] at H
                              have c42b0 : (t141 == 0) = true := beq_iff_eq.mpr c42
                              have c42b1 : (t141 != 0) = false := bne_eq_false_iff_eq.mpr c42
                              clear c42
                              replace H := Option.bind_eq_some_iff.mp H
                              obtain ⟨⟨t144, t145⟩, A430, H⟩ := H
                              replace H : (if t145 = 0 then (if 0 ≤ a1 then (if a1 ≤ (wrap64 (a1 + a2)) then (if (wrap64 (a1 + a2)) ≤ (x11_3.length : Int) then ((codicilref01_Same.f t144 ((x11_3.take ((wrap64 (a1 + a2)) : Int).toNat).drop (a1 : Int).toNat)).bind fun t152 => (some t152)) else (none)) else (none)) else (none)) else (some false)) = some r := H
                              have A43 := Aside0.mk A430
                              clear A430
                              by_cases c44 : t145 = 0
                              · rw [if_pos c44] at H
                                have c44b0 : (t145 == 0) = true := beq_iff_eq.mpr c44
                                have c44b1 : (t145 != 0) = false := bne_eq_false_iff_eq.mpr c44
                                clear c44
                                by_cases c45 : 0 ≤ a1
                                · rw [if_pos c45] at H
                                  have c45b0 := eq_true c45
                                  have c45b1 : decide (0 ≤ a1) = true := decide_eq_true c45
                                  clear c45
                                  by_cases c46 : a1 ≤ (wrap64 (a1 + a2))
                                  · rw [if_pos c46] at H
                                    have c46b0 := eq_true c46
                                    have c46b1 : decide (a1 ≤ (wrap64 (a1 + a2))) = true := decide_eq_true c46
                                    by_cases c47 : (wrap64 (a1 + a2)) ≤ (x11_3.length : Int)
                                    · rw [if_pos c47] at H
                                      have c47b0 := eq_true c47
                                      have c47b1 : decide ((wrap64 (a1 + a2)) ≤ (x11_3.length : Int)) = true := decide_eq_true c47
                                      obtain ⟨y148, hy148⟩ : ∃ y_ : List Int, y_ = ((x11_3.take ((wrap64 (a1 + a2)) : Int).toNat).drop (a1 : Int).toNat) := ⟨_, rfl⟩
                                      replace H : ((codicilref01_Same.f t144 y148).bind fun t152 => (some t152)) = some r := by first | (rw [hy148]; with_reducible exact H) | (have H2_ := (Option.bind_some _ _).symm.trans H; rw [hy148]; with_reducible exact H2_) | (have H2_ := (Option.bind_some _ _).symm.trans H; with_reducible exact H2_) | with_reducible exact H | (rw [hy148]; exact H) | exact H
                                      have Ny148 := Aside0.mk hy148
                                      clear hy148
                                      replace H := Option.bind_eq_some_iff.mp H
                                      obtain ⟨t152, A480, H⟩ := H
                                      replace H : (some t152) = some r := H
                                      have A48 := Aside0.mk A480
                                      clear A480
                                      obtain rfl := Option.some.inj H
                                      go_wp2_with (first | ((with_reducible refine gate_dst (N := 93) rfl ?_); refine Kd.R_lit (Kd.int .u8) _ 5 ?hg (N := 93) ?hd (xs := ([((x11_3.length : Int) % 128) + 128, ((Int.tmod (wrap64 ((x11_3.length : Int) / 128)) 128) + 128) % 256, (wrap64 ((x11_3.length : Int) / 16384)) % 256, ((Int.tmod a2 128) + 128) % 256, (wrap64 (Int.tdiv a2 128)) % 256] : List Int)) (inner := [.int .u8 (((x11_3.length : Int) % 128) + 128), .int .u8 (((Int.tmod (wrap64 ((x11_3.length : Int) / 128)) 128) + 128) % 256), .int .u8 ((wrap64 ((x11_3.length : Int) / 16384)) % 256), .int .u8 (((Int.tmod a2 128) + 128) % 256), .int .u8 ((wrap64 (Int.tdiv a2 128)) % 256)]) (ok := fun _ => True) (okp := fun _ => True) ?hr ?hp (fun _ hk => hk) trivial (Below.refl _ _) (Nat.le_refl _) (by simp) ?_; (case hd => rfl); (case hg => rfl); (case hr => first | (go_simp; done) | (go_simp; rfl)); (case hp => exact (Reps.one (show Kd.M (Kd.int .u8) _ _ _ (((x11_3.length : Int) % 128) + 128) [.int .u8 (((x11_3.length : Int) % 128) + 128)] from rfl) (Reps.one (show Kd.M (Kd.int .u8) _ _ _ (((Int.tmod (wrap64 ((x11_3.length : Int) / 128)) 128) + 128) % 256) [.int .u8 (((Int.tmod (wrap64 ((x11_3.length : Int) / 128)) 128) + 128) % 256)] from rfl) (Reps.one (show Kd.M (Kd.int .u8) _ _ _ ((wrap64 ((x11_3.length : Int) / 16384)) % 256) [.int .u8 ((wrap64 ((x11_3.length : Int) / 16384)) % 256)] from rfl) (Reps.one (show Kd.M (Kd.int .u8) _ _ _ (((Int.tmod a2 128) + 128) % 256) [.int .u8 (((Int.tmod a2 128) + 128) % 256)] from rfl) (Reps.one (show Kd.M (Kd.int .u8) _ _ _ ((wrap64 (Int.tdiv a2 128)) % 256) [.int .u8 ((wrap64 (Int.tdiv a2 128)) % 256)] from rfl) (Reps.none _ _))))))); intro v138 w49 ho50 hb hg_ hnew_; clear hg_ hnew_; (first | rw [← Ny137.out] at ho50 | (simp only [Int.reduceToNat] at ho50; rw [← Ny137.out] at ho50)); have n0_ := Aside0.mk (Kd.R_elder' (by (with_reducible repeat (first | apply Kd.R_alloc | apply Kd.R_drewN | apply Kd.R_drew)); exact HO_11.out) (Kd.R_base ho50) hb); have n1_ := Aside0.mk (Kd.R_lower (Kd.R_new' ho50 (Kd.R_lt (by (with_reducible repeat (first | apply Kd.R_alloc | apply Kd.R_drewN | apply Kd.R_drew)); exact HO_11.out))) (below_size (by repeat (first | (with_reducible first | exact HB.out | apply below_alloc | apply pw_below_drewN | apply below_drew1) | exact HB.out)))); have n2_ := Aside0.mk (below_step (by repeat (first | (with_reducible first | exact HB.out | apply below_alloc | apply pw_below_drewN | apply below_drew1) | exact HB.out)) hb); clear HO_11; clear HB; have HO_11 := n0_; have HO139 := n1_; have HB := n2_; clear n0_ n1_ n2_; clear hb ho50; obtain ⟨Ao51, co51, eo51⟩ := Kd.R_slice HO139.out; subst eo51) | ((with_reducible refine gate_callee (f := 39) rfl ?_); refine goesL_ (some 100) rfl rfl Try.func39 (by kernel_rfl) rfl #[.slice Ao51 y137.length co51, .int .i64 a1, .int .i64 a2] rfl (by (try simp only [List.map_toArray, List.map_cons, List.map_nil]); first | done | rfl | (simp only [List.length_drop, List.length_take]; rfl)) ?_; (with_reducible refine (delta_PutCopy.calls _ _ y137 a1 a2 t140 t141 _ ?side1 ?side2 A41.out).mono ?_); (case side1 => repeat (first | exact (Kd.R_reads' HO139.out).2.2 | (with_reducible refine Kd.C_alloc ?_ _) | (with_reducible refine Kd.C_drewN ?_ _) | (with_reducible refine Kd.C_drew ?_))); (case side2 => exact (Kd.R_reads' HO139.out).2.1); rintro e w52 ⟨v142, rfl, ho0, hb⟩; refine ⟨_, rfl, ?_⟩; have n0_ := Aside0.mk (Kd.R_elder' (by (with_reducible repeat (first | apply Kd.R_alloc | apply Kd.R_drewN | apply Kd.R_drew)); exact HO_11.out) (Kd.R_base ho0) hb); have n1_ := Aside0.mk (Kd.R_elder' (by (with_reducible repeat (first | apply Kd.R_alloc | apply Kd.R_drewN | apply Kd.R_drew)); exact HO139.out) (Kd.R_base ho0) hb); have n2_ := Aside0.mk (Kd.R_lower (Kd.R_new' (Kd.R_new' ho0 (Kd.R_lt (by (with_reducible repeat (first | apply Kd.R_alloc | apply Kd.R_drewN | apply Kd.R_drew)); exact HO_11.out))) (Kd.R_lt (by (with_reducible repeat (first | apply Kd.R_alloc | apply Kd.R_drewN | apply Kd.R_drew)); exact HO139.out))) (below_size (by repeat (first | (with_reducible first | exact HB.out | apply below_alloc | apply pw_below_drewN | apply below_drew1) | exact HB.out)))); have n3_ := Aside0.mk (below_step (by repeat (first | (with_reducible first | exact HB.out | apply below_alloc | apply pw_below_drewN | apply below_drew1) | exact HB.out)) hb); clear HO_11; clear HO139; clear HB; have HO_11 := n0_; have HO139 := n1_; have HO143 := n2_; have HB := n3_; clear n0_ n1_ n2_ n3_; (try clear hb); (try clear hb2); (try clear hk); (try clear hi); (try clear ho0); obtain ⟨Ao53, co53, eo53⟩ := Kd.R_slice HO143.out; subst eo53) | ((with_reducible refine gate_callee (f := 37) rfl ?_); refine goesL_ (some 109) rfl rfl Try.func37 (by kernel_rfl) rfl #[.slice Ao31 x11_3.length co31, .slice Ao53 t140.length co53, .int .i64 a2] rfl (by (try simp only [List.map_toArray, List.map_cons, List.map_nil]); first | done | rfl | (simp only [List.length_drop, List.length_take]; rfl)) ?_; (with_reducible refine (delta_Apply.calls _ _ x11_3 _ _ t140 a2 t144 t145 _ ?side1 ?side2 ?side3 ?side4 A43.out).mono ?_); (case side1 => repeat (first | exact (Kd.R_reads' HO_11.out).2.2 | (with_reducible refine Kd.C_alloc ?_ _) | (with_reducible refine Kd.C_drewN ?_ _) | (with_reducible refine Kd.C_drew ?_))); (case side2 => exact (Kd.R_reads' HO_11.out).2.1); (case side3 => repeat (first | exact (Kd.R_reads' HO143.out).2.2 | (with_reducible refine Kd.C_alloc ?_ _) | (with_reducible refine Kd.C_drewN ?_ _) | (with_reducible refine Kd.C_drew ?_))); (case side4 => exact (Kd.R_reads' HO143.out).2.1); rintro e w54 ⟨v146, rfl, ho0, hb⟩; refine ⟨_, rfl, ?_⟩; have n0_ := Aside0.mk (Kd.R_elder' (by (with_reducible repeat (first | apply Kd.R_alloc | apply Kd.R_drewN | apply Kd.R_drew)); exact HO_11.out) (Kd.R_base ho0) hb); have n1_ := Aside0.mk (Kd.R_elder' (by (with_reducible repeat (first | apply Kd.R_alloc | apply Kd.R_drewN | apply Kd.R_drew)); exact HO139.out) (Kd.R_base ho0) hb); have n2_ := Aside0.mk (Kd.R_elder' (by (with_reducible repeat (first | apply Kd.R_alloc | apply Kd.R_drewN | apply Kd.R_drew)); exact HO143.out) (Kd.R_base ho0) hb); have n3_ := Aside0.mk (Kd.R_lower (Kd.R_new' (Kd.R_new' (Kd.R_new' ho0 (Kd.R_lt (by (with_reducible repeat (first | apply Kd.R_alloc | apply Kd.R_drewN | apply Kd.R_drew)); exact HO_11.out))) (Kd.R_lt (by (with_reducible repeat (first | apply Kd.R_alloc | apply Kd.R_drewN | apply Kd.R_drew)); exact HO139.out))) (Kd.R_lt (by (with_reducible repeat (first | apply Kd.R_alloc | apply Kd.R_drewN | apply Kd.R_drew)); exact HO143.out))) (below_size (by repeat (first | (with_reducible first | exact HB.out | apply below_alloc | apply pw_below_drewN | apply below_drew1) | exact HB.out)))); have n4_ := Aside0.mk (below_step (by repeat (first | (with_reducible first | exact HB.out | apply below_alloc | apply pw_below_drewN | apply below_drew1) | exact HB.out)) hb); clear HO_11; clear HO139; clear HO143; clear HB; have HO_11 := n0_; have HO139 := n1_; have HO143 := n2_; have HO147 := n3_; have HB := n4_; clear n0_ n1_ n2_ n3_ n4_; (try clear hb); (try clear hb2); (try clear hk); (try clear hi); (try clear ho0); have q55 : ((wrap64 (a1 + a2)) : Int) ≤ ((x11_3.length : Int) : Int) := of_decide_eq_true (by first | (with_reducible assumption) | assumption); obtain ⟨i055, hi055, _, hsz55, _⟩ := info_parts info5; have hroom55 : x11_3.length ≤ co31 := (Kd.R_reads' HO_11.out).2.1; have hC55 : Kd.C (Kd.int .u8) _ Ao31 x11_3.length x11_3 := (Kd.R_reads' HO_11.out).2.2; have ql55 : (a1 : Int) ≤ ((wrap64 (a1 + a2)) : Int) := of_decide_eq_true (by first | (with_reducible assumption) | assumption); have q055 : (0 : Int) ≤ (a1 : Int) := of_decide_eq_true (by first | (with_reducible assumption) | assumption); have hcut55 := Go.Proofs.YtiocipmnmjpkfaaW.PrintWords.cut_mid (P := Try.prog) 22 5 .i64 .i64 Try.underlying22 hi055 1 hsz55 Ao31 x11_3.length co31 a1 (wrap64 (a1 + a2)) q055 ql55 q55 hroom55; have hr55 := Kd.C_mid (lo := (a1 : Int).toNat) (hi := ((wrap64 (a1 + a2)) : Int).toNat) (c := co31) hC55 (by omega) (by omega) hroom55; obtain ⟨A55, hA55⟩ : ∃ A1, A1 = (if co31 = (a1 : Int).toNat then Ao31 else (Ao31 : Option Addr).map (·.add ((a1 : Int).toNat * 1))) := ⟨_, rfl⟩; obtain ⟨c55, hc55⟩ : ∃ c1, c1 = co31 - (a1 : Int).toNat := ⟨_, rfl⟩; have hy55 : y148.length = ((wrap64 (a1 + a2)) : Int).toNat - (a1 : Int).toNat := (by rw [Ny148.out, List.length_drop, List.length_take] <;> omega); rw [show ((x11_3).take ((wrap64 (a1 + a2)) : Int).toNat).drop (a1 : Int).toNat = y148 from Ny148.out.symm] at hr55; replace hr55 : Kd.C (Kd.int .u8) _ A55 y148.length y148 := (by rw [hA55]; exact hr55); rw [← hy55, ← hA55, ← hc55] at hcut55; have HR151 := Aside0.mk hr55; have HC151 := Aside0.mk (show y148.length ≤ c55 from by rw [hy55, hc55]; exact Nat.sub_le_sub_right (Nat.le_trans (by omega) hroom55) _); clear hr55 hC55 hroom55 hi055 hsz55 hc55; have KY55 := Aside0.mk hy55; have KA55 := Aside0.mk hA55; clear hy55 hA55; have KL55 := Aside0.mk (show ((wrap64 (a1 + a2)) : Int).toNat ≤ x11_3.length from by omega); have KM55 := Aside0.mk (show (a1 : Int).toNat ≤ ((wrap64 (a1 + a2)) : Int).toNat from by omega); replace q55 := eq_true q55; obtain ⟨Ao56, co56, eo56⟩ := Kd.R_slice HO147.out; subst eo56) | (go_at_call 21; (with_reducible refine (codicilref01_Same.calls _ _ t144 _ _ y148 t152 _ ?side1 ?side2 ?side3 ?side4 A48.out).mono ?_); (case side1 => repeat (first | exact (Kd.R_reads' HO147.out).2.2 | (with_reducible refine Kd.C_alloc ?_ _) | (with_reducible refine Kd.C_drewN ?_ _) | (with_reducible refine Kd.C_drew ?_))); (case side2 => exact (Kd.R_reads' HO147.out).2.1); (case side3 => repeat (first | exact (by repeat (first | (with_reducible exact HR151.out) | (with_reducible refine Kd.C_alloc ?_ _) | (with_reducible refine Kd.C_drewN ?_ _) | (with_reducible refine Kd.C_drew ?_) | exact HR151.out)) | (with_reducible refine Kd.C_alloc ?_ _) | (with_reducible refine Kd.C_drewN ?_ _) | (with_reducible refine Kd.C_drew ?_))); (case side4 => exact HC151.out); rintro e w' ⟨rfl, ⟨nd, rfl⟩⟩))
                                      go_ret
                                      exact ⟨by first | rfl | (simp [errW_none, errW_some] <;> rfl) | (simp only [← hji26]; first | rfl | (simp [errW_none, errW_some] <;> rfl)) | (simp [*, errW_none, errW_some] <;> rfl), by repeat (first | (with_reducible first | exact HB.out | apply below_alloc | apply pw_below_drewN | apply below_drew1) | exact HB.out)⟩
                                    · rw [if_neg c47] at H
                                      exact absurd H (by simp)
                                  · rw [if_neg c46] at H
                                    exact absurd H (by simp)
                                · rw [if_neg c45] at H
                                  exact absurd H (by simp)
                              · rw [if_neg c44] at H
                                have c44b0 : (t145 == 0) = false := beq_eq_false_iff_ne.mpr c44
                                have c44b1 : (t145 != 0) = true := bne_iff_ne.mpr c44
                                obtain rfl := Option.some.inj H
                                go_wp2_with (first | ((with_reducible refine gate_dst (N := 93) rfl ?_); refine Kd.R_lit (Kd.int .u8) _ 5 ?hg (N := 93) ?hd (xs := ([((x11_3.length : Int) % 128) + 128, ((Int.tmod (wrap64 ((x11_3.length : Int) / 128)) 128) + 128) % 256, (wrap64 ((x11_3.length : Int) / 16384)) % 256, ((Int.tmod a2 128) + 128) % 256, (wrap64 (Int.tdiv a2 128)) % 256] : List Int)) (inner := [.int .u8 (((x11_3.length : Int) % 128) + 128), .int .u8 (((Int.tmod (wrap64 ((x11_3.length : Int) / 128)) 128) + 128) % 256), .int .u8 ((wrap64 ((x11_3.length : Int) / 16384)) % 256), .int .u8 (((Int.tmod a2 128) + 128) % 256), .int .u8 ((wrap64 (Int.tdiv a2 128)) % 256)]) (ok := fun _ => True) (okp := fun _ => True) ?hr ?hp (fun _ hk => hk) trivial (Below.refl _ _) (Nat.le_refl _) (by simp) ?_; (case hd => rfl); (case hg => rfl); (case hr => first | (go_simp; done) | (go_simp; rfl)); (case hp => exact (Reps.one (show Kd.M (Kd.int .u8) _ _ _ (((x11_3.length : Int) % 128) + 128) [.int .u8 (((x11_3.length : Int) % 128) + 128)] from rfl) (Reps.one (show Kd.M (Kd.int .u8) _ _ _ (((Int.tmod (wrap64 ((x11_3.length : Int) / 128)) 128) + 128) % 256) [.int .u8 (((Int.tmod (wrap64 ((x11_3.length : Int) / 128)) 128) + 128) % 256)] from rfl) (Reps.one (show Kd.M (Kd.int .u8) _ _ _ ((wrap64 ((x11_3.length : Int) / 16384)) % 256) [.int .u8 ((wrap64 ((x11_3.length : Int) / 16384)) % 256)] from rfl) (Reps.one (show Kd.M (Kd.int .u8) _ _ _ (((Int.tmod a2 128) + 128) % 256) [.int .u8 (((Int.tmod a2 128) + 128) % 256)] from rfl) (Reps.one (show Kd.M (Kd.int .u8) _ _ _ ((wrap64 (Int.tdiv a2 128)) % 256) [.int .u8 ((wrap64 (Int.tdiv a2 128)) % 256)] from rfl) (Reps.none _ _))))))); intro v138 w57 ho58 hb hg_ hnew_; clear hg_ hnew_; (first | rw [← Ny137.out] at ho58 | (simp only [Int.reduceToNat] at ho58; rw [← Ny137.out] at ho58)); have n0_ := Aside0.mk (Kd.R_elder' (by (with_reducible repeat (first | apply Kd.R_alloc | apply Kd.R_drewN | apply Kd.R_drew)); exact HO_11.out) (Kd.R_base ho58) hb); have n1_ := Aside0.mk (Kd.R_lower (Kd.R_new' ho58 (Kd.R_lt (by (with_reducible repeat (first | apply Kd.R_alloc | apply Kd.R_drewN | apply Kd.R_drew)); exact HO_11.out))) (below_size (by repeat (first | (with_reducible first | exact HB.out | apply below_alloc | apply pw_below_drewN | apply below_drew1) | exact HB.out)))); have n2_ := Aside0.mk (below_step (by repeat (first | (with_reducible first | exact HB.out | apply below_alloc | apply pw_below_drewN | apply below_drew1) | exact HB.out)) hb); clear HO_11; clear HB; have HO_11 := n0_; have HO139 := n1_; have HB := n2_; clear n0_ n1_ n2_; clear hb ho58; obtain ⟨Ao59, co59, eo59⟩ := Kd.R_slice HO139.out; subst eo59) | ((with_reducible refine gate_callee (f := 39) rfl ?_); refine goesL_ (some 100) rfl rfl Try.func39 (by kernel_rfl) rfl #[.slice Ao59 y137.length co59, .int .i64 a1, .int .i64 a2] rfl (by (try simp only [List.map_toArray, List.map_cons, List.map_nil]); first | done | rfl | (simp only [List.length_drop, List.length_take]; rfl)) ?_; (with_reducible refine (delta_PutCopy.calls _ _ y137 a1 a2 t140 t141 _ ?side1 ?side2 A41.out).mono ?_); (case side1 => repeat (first | exact (Kd.R_reads' HO139.out).2.2 | (with_reducible refine Kd.C_alloc ?_ _) | (with_reducible refine Kd.C_drewN ?_ _) | (with_reducible refine Kd.C_drew ?_))); (case side2 => exact (Kd.R_reads' HO139.out).2.1); rintro e w60 ⟨v142, rfl, ho0, hb⟩; refine ⟨_, rfl, ?_⟩; have n0_ := Aside0.mk (Kd.R_elder' (by (with_reducible repeat (first | apply Kd.R_alloc | apply Kd.R_drewN | apply Kd.R_drew)); exact HO_11.out) (Kd.R_base ho0) hb); have n1_ := Aside0.mk (Kd.R_elder' (by (with_reducible repeat (first | apply Kd.R_alloc | apply Kd.R_drewN | apply Kd.R_drew)); exact HO139.out) (Kd.R_base ho0) hb); have n2_ := Aside0.mk (Kd.R_lower (Kd.R_new' (Kd.R_new' ho0 (Kd.R_lt (by (with_reducible repeat (first | apply Kd.R_alloc | apply Kd.R_drewN | apply Kd.R_drew)); exact HO_11.out))) (Kd.R_lt (by (with_reducible repeat (first | apply Kd.R_alloc | apply Kd.R_drewN | apply Kd.R_drew)); exact HO139.out))) (below_size (by repeat (first | (with_reducible first | exact HB.out | apply below_alloc | apply pw_below_drewN | apply below_drew1) | exact HB.out)))); have n3_ := Aside0.mk (below_step (by repeat (first | (with_reducible first | exact HB.out | apply below_alloc | apply pw_below_drewN | apply below_drew1) | exact HB.out)) hb); clear HO_11; clear HO139; clear HB; have HO_11 := n0_; have HO139 := n1_; have HO143 := n2_; have HB := n3_; clear n0_ n1_ n2_ n3_; (try clear hb); (try clear hb2); (try clear hk); (try clear hi); (try clear ho0); obtain ⟨Ao61, co61, eo61⟩ := Kd.R_slice HO143.out; subst eo61) | ((with_reducible refine gate_callee (f := 37) rfl ?_); refine goesL_ (some 109) rfl rfl Try.func37 (by kernel_rfl) rfl #[.slice Ao31 x11_3.length co31, .slice Ao61 t140.length co61, .int .i64 a2] rfl (by (try simp only [List.map_toArray, List.map_cons, List.map_nil]); first | done | rfl | (simp only [List.length_drop, List.length_take]; rfl)) ?_; (with_reducible refine (delta_Apply.calls _ _ x11_3 _ _ t140 a2 t144 t145 _ ?side1 ?side2 ?side3 ?side4 A43.out).mono ?_); (case side1 => repeat (first | exact (Kd.R_reads' HO_11.out).2.2 | (with_reducible refine Kd.C_alloc ?_ _) | (with_reducible refine Kd.C_drewN ?_ _) | (with_reducible refine Kd.C_drew ?_))); (case side2 => exact (Kd.R_reads' HO_11.out).2.1); (case side3 => repeat (first | exact (Kd.R_reads' HO143.out).2.2 | (with_reducible refine Kd.C_alloc ?_ _) | (with_reducible refine Kd.C_drewN ?_ _) | (with_reducible refine Kd.C_drew ?_))); (case side4 => exact (Kd.R_reads' HO143.out).2.1); rintro e w62 ⟨v146, rfl, ho0, hb⟩; refine ⟨_, rfl, ?_⟩; have n0_ := Aside0.mk (Kd.R_elder' (by (with_reducible repeat (first | apply Kd.R_alloc | apply Kd.R_drewN | apply Kd.R_drew)); exact HO_11.out) (Kd.R_base ho0) hb); have n1_ := Aside0.mk (Kd.R_elder' (by (with_reducible repeat (first | apply Kd.R_alloc | apply Kd.R_drewN | apply Kd.R_drew)); exact HO139.out) (Kd.R_base ho0) hb); have n2_ := Aside0.mk (Kd.R_elder' (by (with_reducible repeat (first | apply Kd.R_alloc | apply Kd.R_drewN | apply Kd.R_drew)); exact HO143.out) (Kd.R_base ho0) hb); have n3_ := Aside0.mk (Kd.R_lower (Kd.R_new' (Kd.R_new' (Kd.R_new' ho0 (Kd.R_lt (by (with_reducible repeat (first | apply Kd.R_alloc | apply Kd.R_drewN | apply Kd.R_drew)); exact HO_11.out))) (Kd.R_lt (by (with_reducible repeat (first | apply Kd.R_alloc | apply Kd.R_drewN | apply Kd.R_drew)); exact HO139.out))) (Kd.R_lt (by (with_reducible repeat (first | apply Kd.R_alloc | apply Kd.R_drewN | apply Kd.R_drew)); exact HO143.out))) (below_size (by repeat (first | (with_reducible first | exact HB.out | apply below_alloc | apply pw_below_drewN | apply below_drew1) | exact HB.out)))); have n4_ := Aside0.mk (below_step (by repeat (first | (with_reducible first | exact HB.out | apply below_alloc | apply pw_below_drewN | apply below_drew1) | exact HB.out)) hb); clear HO_11; clear HO139; clear HO143; clear HB; have HO_11 := n0_; have HO139 := n1_; have HO143 := n2_; have HO147 := n3_; have HB := n4_; clear n0_ n1_ n2_ n3_ n4_; (try clear hb); (try clear hb2); (try clear hk); (try clear hi); (try clear ho0)))
                                go_ret
                                exact ⟨by first | rfl | (simp [errW_none, errW_some] <;> rfl) | (simp only [← hji26]; first | rfl | (simp [errW_none, errW_some] <;> rfl)) | (simp [*, errW_none, errW_some] <;> rfl), by repeat (first | (with_reducible first | exact HB.out | apply below_alloc | apply pw_below_drewN | apply below_drew1) | exact HB.out)⟩
                            · rw [if_neg c42] at H
                              have c42b0 : (t141 == 0) = false := beq_eq_false_iff_ne.mpr c42
                              have c42b1 : (t141 != 0) = true := bne_iff_ne.mpr c42
                              obtain rfl := Option.some.inj H
                              go_wp2_with (first | ((with_reducible refine gate_dst (N := 93) rfl ?_); refine Kd.R_lit (Kd.int .u8) _ 5 ?hg (N := 93) ?hd (xs := ([((x11_3.length : Int) % 128) + 128, ((Int.tmod (wrap64 ((x11_3.length : Int) / 128)) 128) + 128) % 256, (wrap64 ((x11_3.length : Int) / 16384)) % 256, ((Int.tmod a2 128) + 128) % 256, (wrap64 (Int.tdiv a2 128)) % 256] : List Int)) (inner := [.int .u8 (((x11_3.length : Int) % 128) + 128), .int .u8 (((Int.tmod (wrap64 ((x11_3.length : Int) / 128)) 128) + 128) % 256), .int .u8 ((wrap64 ((x11_3.length : Int) / 16384)) % 256), .int .u8 (((Int.tmod a2 128) + 128) % 256), .int .u8 ((wrap64 (Int.tdiv a2 128)) % 256)]) (ok := fun _ => True) (okp := fun _ => True) ?hr ?hp (fun _ hk => hk) trivial (Below.refl _ _) (Nat.le_refl _) (by simp) ?_; (case hd => rfl); (case hg => rfl); (case hr => first | (go_simp; done) | (go_simp; rfl)); (case hp => exact (Reps.one (show Kd.M (Kd.int .u8) _ _ _ (((x11_3.length : Int) % 128) + 128) [.int .u8 (((x11_3.length : Int) % 128) + 128)] from rfl) (Reps.one (show Kd.M (Kd.int .u8) _ _ _ (((Int.tmod (wrap64 ((x11_3.length : Int) / 128)) 128) + 128) % 256) [.int .u8 (((Int.tmod (wrap64 ((x11_3.length : Int) / 128)) 128) + 128) % 256)] from rfl) (Reps.one (show Kd.M (Kd.int .u8) _ _ _ ((wrap64 ((x11_3.length : Int) / 16384)) % 256) [.int .u8 ((wrap64 ((x11_3.length : Int) / 16384)) % 256)] from rfl) (Reps.one (show Kd.M (Kd.int .u8) _ _ _ (((Int.tmod a2 128) + 128) % 256) [.int .u8 (((Int.tmod a2 128) + 128) % 256)] from rfl) (Reps.one (show Kd.M (Kd.int .u8) _ _ _ ((wrap64 (Int.tdiv a2 128)) % 256) [.int .u8 ((wrap64 (Int.tdiv a2 128)) % 256)] from rfl) (Reps.none _ _))))))); intro v138 w63 ho64 hb hg_ hnew_; clear hg_ hnew_; (first | rw [← Ny137.out] at ho64 | (simp only [Int.reduceToNat] at ho64; rw [← Ny137.out] at ho64)); have n0_ := Aside0.mk (Kd.R_elder' (by (with_reducible repeat (first | apply Kd.R_alloc | apply Kd.R_drewN | apply Kd.R_drew)); exact HO_11.out) (Kd.R_base ho64) hb); have n1_ := Aside0.mk (Kd.R_lower (Kd.R_new' ho64 (Kd.R_lt (by (with_reducible repeat (first | apply Kd.R_alloc | apply Kd.R_drewN | apply Kd.R_drew)); exact HO_11.out))) (below_size (by repeat (first | (with_reducible first | exact HB.out | apply below_alloc | apply pw_below_drewN | apply below_drew1) | exact HB.out)))); have n2_ := Aside0.mk (below_step (by repeat (first | (with_reducible first | exact HB.out | apply below_alloc | apply pw_below_drewN | apply below_drew1) | exact HB.out)) hb); clear HO_11; clear HB; have HO_11 := n0_; have HO139 := n1_; have HB := n2_; clear n0_ n1_ n2_; clear hb ho64; obtain ⟨Ao65, co65, eo65⟩ := Kd.R_slice HO139.out; subst eo65) | ((with_reducible refine gate_callee (f := 39) rfl ?_); refine goesL_ (some 100) rfl rfl Try.func39 (by kernel_rfl) rfl #[.slice Ao65 y137.length co65, .int .i64 a1, .int .i64 a2] rfl (by (try simp only [List.map_toArray, List.map_cons, List.map_nil]); first | done | rfl | (simp only [List.length_drop, List.length_take]; rfl)) ?_; (with_reducible refine (delta_PutCopy.calls _ _ y137 a1 a2 t140 t141 _ ?side1 ?side2 A41.out).mono ?_); (case side1 => repeat (first | exact (Kd.R_reads' HO139.out).2.2 | (with_reducible refine Kd.C_alloc ?_ _) | (with_reducible refine Kd.C_drewN ?_ _) | (with_reducible refine Kd.C_drew ?_))); (case side2 => exact (Kd.R_reads' HO139.out).2.1); rintro e w66 ⟨v142, rfl, ho0, hb⟩; refine ⟨_, rfl, ?_⟩; have n0_ := Aside0.mk (Kd.R_elder' (by (with_reducible repeat (first | apply Kd.R_alloc | apply Kd.R_drewN | apply Kd.R_drew)); exact HO_11.out) (Kd.R_base ho0) hb); have n1_ := Aside0.mk (Kd.R_elder' (by (with_reducible repeat (first | apply Kd.R_alloc | apply Kd.R_drewN | apply Kd.R_drew)); exact HO139.out) (Kd.R_base ho0) hb); have n2_ := Aside0.mk (Kd.R_lower (Kd.R_new' (Kd.R_new' ho0 (Kd.R_lt (by (with_reducible repeat (first | apply Kd.R_alloc | apply Kd.R_drewN | apply Kd.R_drew)); exact HO_11.out))) (Kd.R_lt (by (with_reducible repeat (first | apply Kd.R_alloc | apply Kd.R_drewN | apply Kd.R_drew)); exact HO139.out))) (below_size (by repeat (first | (with_reducible first | exact HB.out | apply below_alloc | apply pw_below_drewN | apply below_drew1) | exact HB.out)))); have n3_ := Aside0.mk (below_step (by repeat (first | (with_reducible first | exact HB.out | apply below_alloc | apply pw_below_drewN | apply below_drew1) | exact HB.out)) hb); clear HO_11; clear HO139; clear HB; have HO_11 := n0_; have HO139 := n1_; have HO143 := n2_; have HB := n3_; clear n0_ n1_ n2_ n3_; (try clear hb); (try clear hb2); (try clear hk); (try clear hi); (try clear ho0)))
                              go_ret
                              exact ⟨by first | rfl | (simp [errW_none, errW_some] <;> rfl) | (simp only [← hji26]; first | rfl | (simp [errW_none, errW_some] <;> rfl)) | (simp [*, errW_none, errW_some] <;> rfl), by repeat (first | (with_reducible first | exact HB.out | apply below_alloc | apply pw_below_drewN | apply below_drew1) | exact HB.out)⟩
                  · rw [if_neg c28] at H
                    exact absurd H (by simp)
                · rw [if_neg c27] at H
                  exact absurd H (by simp)
  · replace c5 := Bool.eq_false_iff.mpr c5
    subst c5
    have H1 : (some false) = some r := by rw [if_neg (show ¬ (false = true) by decide)] at H; exact H
    clear H
    have H := H1
    clear H1
    obtain rfl := Option.some.inj H
    go_enter Try.func10, Try.ntmps10
    go_wp2_with (first | ((with_reducible refine gate_callee (f := 36) rfl ?_); refine goesL_ (some 15) rfl rfl Try.func36 (by kernel_rfl) rfl #[] rfl (by (try simp only [List.map_toArray, List.map_cons, List.map_nil]); first | done | rfl | (simp only [List.length_drop, List.length_take]; rfl)) ?_; (with_reducible refine (codicillaw08_awake.calls  false _ A4.out).mono ?_); rintro e w67 ⟨rfl, hb⟩; refine ⟨_, rfl, ?_⟩; have n0_ := Aside0.mk (below_step (by repeat (first | (with_reducible first | exact HB.out | apply below_alloc | apply pw_below_drewN | apply below_drew1) | exact HB.out)) hb); clear HB; have HB := n0_; clear n0_; (try clear hb); (try clear hb2); (try clear hk); (try clear hi)))
    go_ret
    exact ⟨by first | rfl | (simp [errW_none, errW_some] <;> rfl) | (simp [*, errW_none, errW_some] <;> rfl), by repeat (first | (with_reducible first | exact HB.out | apply below_alloc | apply pw_below_drewN | apply below_drew1) | exact HB.out)⟩

/-- THE ONE PURE STATEMENT of codicillaw08_DeltaCopies: yours. -/
def codicillaw08_DeltaCopies.Pure : Prop := ∀ (l0 : List Int) (a1 : Int) (a2 : Int), l0.length ≤ maxLen → l0.length * 1 ≤ 140737488351232 → (∀ x ∈ l0, (Lit.int .u8 x).wf = true) → (Lit.int .i64 a1).wf = true → (Lit.int .i64 a2).wf = true → ∃ k, codicillaw08_DeltaCopies.f k l0 a1 a2 = some true
theorem codicillaw08_DeltaCopies.walk (P : codicillaw08_DeltaCopies.Pure) (a0 : Option Addr) (len0 cap0 : Nat) (z0 : List Int) (a1 : Int) (a2 : Int) (w : World) (w0 : (a0 = none ∧ len0 = 0 ∧ cap0 = 0 ∧ z0 = []) ∨ ∃ x, a0 = some x ∧ len0 ≤ cap0 ∧ cap0 ≤ maxLen ∧ z0.length = cap0 ∧ (∀ i, i < z0.length → w.cell? (x.add i) = some (.int .u8 (z0.getD i 0))) ∧ ∀ n ∈ z0, (Lit.int .u8 n).wf = true) (y0 : len0 * 1 ≤ 140737488351232) (w1 : (Lit.int .i64 a1).wf = true) (w2 : (Lit.int .i64 a2).wf = true) :
    Calls Try.prog 10 #[.slice a0 len0 cap0, .int .i64 a1, .int .i64 a2] w fun e w' => e = .returned (.bool true) ∧ Below w.heap.size w w' := by
  obtain ⟨l0, rfl, hr0, hm0, hw0, hc0⟩ := ReadsInt.ofRowC w0
  obtain ⟨k, h⟩ := P l0 a1 a2 hm0 y0 hw0 w1 w2
  refine (codicillaw08_DeltaCopies.calls k _ _ l0 a1 a2 true w (Kd.C_of_reads (d := (0 : Int)) (h1 := fun _ => rfl) hr0) hc0 h).mono ?_
  rintro e w' ⟨rfl, hd⟩
  exact ⟨rfl, hd⟩

end Go.Proofs.Ytiocipmnmjpkfaa.PDC
