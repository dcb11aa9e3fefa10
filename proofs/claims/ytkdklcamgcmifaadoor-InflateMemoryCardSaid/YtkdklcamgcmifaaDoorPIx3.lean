-- Written by fprint.py, a program of this session, over the translation. Not trusted: Lean checks it.
import Derived.Test.YtkdklcamgcmifaaDoorPIx0
import Derived.Test.YtkdklcamgcmifaaDoorPIx1
namespace Go.Proofs.YtkdklcamgcmifaaDoor.PI
open Go.RowKit Go.Proofs.YtkdklcamgcmifaaDoorW.PrintWords Go.Proofs.YtkdklcamgcmifaaDoorW.PrintLast Go.Proofs.YtkdklcamgcmifaaDoorW.PrintMore
attribute [local go_sem] max2_int min2_int max_two min_two max_three min_three max_four min_four   -- for this text's walks alone
set_option linter.unusedVariables false
set_option linter.unusedSimpArgs false

/-! ### codicilref03_next: function 57 -/
mutual
def codicilref03_next.j0 : Nat → List Int → Int → Int → Int → List Int → Int → List Int → Int → Int → Option (List Int × Int × Int × Int)
  | 0, _, _, _, _, _, _, _, _, _ => none
  | k + 1, x1, x3, x9, x10, x1000, x1001, x1002, x1003, x1004 => if (wrap64 ((x1.length : Int) + x10)) > x3 then ((codicilref03_fail.f x1000 x1001 x1002 x1003 x1004).bind fun bt199 => (codicilref03_next.j1 k x1 x9 x10 x1000 bt199.1 x1002 bt199.2.1 bt199.2.2)) else (codicilref03_next.j1 k x1 x9 x10 x1000 x1001 x1002 x1003 x1004)
def codicilref03_next.j1 : Nat → List Int → Int → Int → List Int → Int → List Int → Int → Int → Option (List Int × Int × Int × Int)
  | 0, _, _, _, _, _, _, _, _ => none
  | k + 1, x1, x9, x10, x1000, x1001, x1002, x1003, x1004 => if x1004 = 0 then (codicilref03_next.l0 k x1 x9 x10 0 x1000 x1001 x1002 x1003 x1004) else (some (x1, x1001, x1003, x1004))
def codicilref03_next.l0 : Nat → List Int → Int → Int → Int → List Int → Int → List Int → Int → Int → Option (List Int × Int × Int × Int)
  | 0, _, _, _, _, _, _, _, _, _ => none
  | k + 1, x1, x9, x10, x11, x1000, x1001, x1002, x1003, x1004 => if x11 < x10 then (if x1.length < 17592186044416 then (codicilref03_next.l0 k (x1 ++ [x9]) x9 x10 (wrap64 (x11 + 1)) x1000 x1001 x1002 x1003 x1004) else (none)) else (some (x1, x1001, x1003, x1004))
end
def codicilref03_next.f (k : Nat) (s0_0 : List Int) (s0_1 : Int) (s0_2 : List Int) (s0_3 : Int) (s0_4 : Int) (l1 : List Int) (a2 : Int) (a3 : Int) : Option (List Int × Int × Int × Int) := if a2 = 16 then (if (l1.length : Int) = 0 then ((codicilref03_fail.f s0_0 s0_1 s0_2 s0_3 s0_4).bind fun bt183 => (some (l1, bt183.1, bt183.2.1, bt183.2.2))) else (if 0 ≤ (wrap64 ((l1.length : Int) - 1)) then (if (wrap64 ((l1.length : Int) - 1)) < (l1.length : Int) then ((codicilref03_number.f k s0_0 s0_1 s0_2 s0_3 s0_4 2).bind fun bt187 => (codicilref03_next.j0 k l1 a3 (rd l1 (wrap64 ((l1.length : Int) - 1))) (wrap64 (3 + bt187.1)) s0_0 bt187.2.1 s0_2 bt187.2.2.1 bt187.2.2.2)) else (none)) else (none))) else (if a2 = 17 then ((codicilref03_number.f k s0_0 s0_1 s0_2 s0_3 s0_4 3).bind fun bt191 => (codicilref03_next.j0 k l1 a3 0 (wrap64 (3 + bt191.1)) s0_0 bt191.2.1 s0_2 bt191.2.2.1 bt191.2.2.2)) else (if a2 = 18 then ((codicilref03_number.f k s0_0 s0_1 s0_2 s0_3 s0_4 7).bind fun bt195 => (codicilref03_next.j0 k l1 a3 0 (wrap64 (11 + bt195.1)) s0_0 bt195.2.1 s0_2 bt195.2.2.1 bt195.2.2.2)) else (codicilref03_next.j0 k l1 a3 a2 1 s0_0 s0_1 s0_2 s0_3 s0_4)))
theorem codicilref03_next.mono_l : ∀ k, (∀ y0 y1 y2 y3 y4 y5 y6 y7 y8, LeO (codicilref03_next.j0 k y0 y1 y2 y3 y4 y5 y6 y7 y8) (codicilref03_next.j0 (k + 1) y0 y1 y2 y3 y4 y5 y6 y7 y8)) ∧ (∀ y0 y1 y2 y3 y4 y5 y6 y7, LeO (codicilref03_next.j1 k y0 y1 y2 y3 y4 y5 y6 y7) (codicilref03_next.j1 (k + 1) y0 y1 y2 y3 y4 y5 y6 y7)) ∧ (∀ y0 y1 y2 y3 y4 y5 y6 y7 y8, LeO (codicilref03_next.l0 k y0 y1 y2 y3 y4 y5 y6 y7 y8) (codicilref03_next.l0 (k + 1) y0 y1 y2 y3 y4 y5 y6 y7 y8))
  | 0 => ⟨fun _ _ _ _ _ _ _ _ _ r h => by simp [codicilref03_next.j0] at h, fun _ _ _ _ _ _ _ _ r h => by simp [codicilref03_next.j1] at h, fun _ _ _ _ _ _ _ _ _ r h => by simp [codicilref03_next.l0] at h⟩
  | k + 1 => by
    obtain ⟨ih0, ih1, ih2⟩ := codicilref03_next.mono_l k
    refine ⟨?_, ?_, ?_⟩
    · intro y0 y1 y2 y3 y4 y5 y6 y7 y8
      unfold codicilref03_next.j0
      repeat' first
      | (with_reducible exact ih0 _ _ _ _ _ _ _ _ _)
      | (with_reducible exact ih1 _ _ _ _ _ _ _ _)
      | (with_reducible exact ih2 _ _ _ _ _ _ _ _ _)
      | (with_reducible exact codicilref03_number.mono _ _ _ _ _ _ _)
      | (with_reducible exact LeO.refl _)
      | (with_reducible exact LeO.none _)
      | (with_reducible refine LeO.ite ?_ ?_)
      | (with_reducible refine LeO.bind ?_ (fun _ => ?_))
      | exact ih0 _ _ _ _ _ _ _ _ _
      | exact ih1 _ _ _ _ _ _ _ _
      | exact ih2 _ _ _ _ _ _ _ _ _
      | exact codicilref03_number.mono _ _ _ _ _ _ _
      | exact LeO.none _
      | refine LeO.ite ?_ ?_
      | refine LeO.bind ?_ (fun _ => ?_)
    · intro y0 y1 y2 y3 y4 y5 y6 y7
      unfold codicilref03_next.j1
      repeat' first
      | (with_reducible exact ih0 _ _ _ _ _ _ _ _ _)
      | (with_reducible exact ih1 _ _ _ _ _ _ _ _)
      | (with_reducible exact ih2 _ _ _ _ _ _ _ _ _)
      | (with_reducible exact codicilref03_number.mono _ _ _ _ _ _ _)
      | (with_reducible exact LeO.refl _)
      | (with_reducible exact LeO.none _)
      | (with_reducible refine LeO.ite ?_ ?_)
      | (with_reducible refine LeO.bind ?_ (fun _ => ?_))
      | exact ih0 _ _ _ _ _ _ _ _ _
      | exact ih1 _ _ _ _ _ _ _ _
      | exact ih2 _ _ _ _ _ _ _ _ _
      | exact codicilref03_number.mono _ _ _ _ _ _ _
      | exact LeO.none _
      | refine LeO.ite ?_ ?_
      | refine LeO.bind ?_ (fun _ => ?_)
    · intro y0 y1 y2 y3 y4 y5 y6 y7 y8
      unfold codicilref03_next.l0
      repeat' first
      | (with_reducible exact ih0 _ _ _ _ _ _ _ _ _)
      | (with_reducible exact ih1 _ _ _ _ _ _ _ _)
      | (with_reducible exact ih2 _ _ _ _ _ _ _ _ _)
      | (with_reducible exact codicilref03_number.mono _ _ _ _ _ _ _)
      | (with_reducible exact LeO.refl _)
      | (with_reducible exact LeO.none _)
      | (with_reducible refine LeO.ite ?_ ?_)
      | (with_reducible refine LeO.bind ?_ (fun _ => ?_))
      | exact ih0 _ _ _ _ _ _ _ _ _
      | exact ih1 _ _ _ _ _ _ _ _
      | exact ih2 _ _ _ _ _ _ _ _ _
      | exact codicilref03_number.mono _ _ _ _ _ _ _
      | exact LeO.none _
      | refine LeO.ite ?_ ?_
      | refine LeO.bind ?_ (fun _ => ?_)
theorem codicilref03_next.mono : ∀ a0 a1 a2 a3 a4 a5 a6 a7 k, LeO (codicilref03_next.f k a0 a1 a2 a3 a4 a5 a6 a7) (codicilref03_next.f (k + 1) a0 a1 a2 a3 a4 a5 a6 a7) := by
  intro a0 a1 a2 a3 a4 a5 a6 a7 k
  obtain ⟨ih0, ih1, ih2⟩ := codicilref03_next.mono_l k
  unfold codicilref03_next.f
  repeat' first
      | (with_reducible exact ih0 _ _ _ _ _ _ _ _ _)
      | (with_reducible exact ih1 _ _ _ _ _ _ _ _)
      | (with_reducible exact ih2 _ _ _ _ _ _ _ _ _)
      | (with_reducible exact codicilref03_number.mono _ _ _ _ _ _ _)
      | (with_reducible exact LeO.refl _)
      | (with_reducible exact LeO.none _)
      | (with_reducible refine LeO.ite ?_ ?_)
      | (with_reducible refine LeO.bind ?_ (fun _ => ?_))
      | exact ih0 _ _ _ _ _ _ _ _ _
      | exact ih1 _ _ _ _ _ _ _ _
      | exact ih2 _ _ _ _ _ _ _ _ _
      | exact codicilref03_number.mono _ _ _ _ _ _ _
      | exact LeO.none _
      | refine LeO.ite ?_ ?_
      | refine LeO.bind ?_ (fun _ => ?_)
set_option maxHeartbeats 8000000 in
set_option maxRecDepth 100000 in
theorem codicilref03_next.calls (k : Nat) (g : Nat) (s0_0 : List Int) (s0_1 : Int) (s0_2 : List Int) (s0_3 : Int) (s0_4 : Int) (P1_ : Nat → Prop) (u9000_ : Value) (l1 : List Int) (a2 : Int) (a3 : Int) (r1 : List Int) (r2 : Int) (r3 : Int) (r4 : Int) (w0 w : World) (hI : IsS47 w0 w g s0_0 s0_1 s0_2 s0_3 s0_4) (hB : Below w0.heap.size w0 w) (ho1 : Kd.R (Kd.int .i64) 3 w w0.heap.size P1_ u9000_ l1) (h : codicilref03_next.f k s0_0 s0_1 s0_2 s0_3 s0_4 l1 a2 a3 = some (r1, r2, r3, r4)) :
    Calls Tryd.prog 57 #[.pointer (some ⟨g, 0, none⟩), u9000_, .int .i64 a2, .int .i64 a3] w fun e w' => ∃ v0_ : Value, e = .returned (v0_) ∧ Kd.R (Kd.int .i64) 3 w' w0.heap.size (fun k_ => (P1_ k_ ∨ w.heap.size ≤ k_)) v0_ r1 ∧ IsS47 w0 w' g s0_0 r2 s0_2 r3 r4 ∧ Below w0.heap.size w0 w' ∧ Kept w w' (fun k_ => (P1_ k_) ∨ k_ = g) := by
  have HO1 := Aside0.mk (show Kd.R (Kd.int .i64) 3 w w0.heap.size (fun k_ => (P1_ k_ ∨ w.heap.size ≤ k_)) u9000_ l1 from Kd.R_mono ho1 (fun k_ hk => (.inl hk)))
  have HI0 := Aside0.mk hI
  have HL := Aside0.mk hB.size
  clear hI
  have HK := Aside0.mk (Kept.refl w (fun k_ => (P1_ k_) ∨ k_ = g))
  have HW0 := Aside0.mk hB.size
  have HB := Aside0.mk hB
  clear hB
  have H : (if a2 = 16 then (if (l1.length : Int) = 0 then ((codicilref03_fail.f s0_0 s0_1 s0_2 s0_3 s0_4).bind fun bt183 => (some (l1, bt183.1, bt183.2.1, bt183.2.2))) else (if 0 ≤ (wrap64 ((l1.length : Int) - 1)) then (if (wrap64 ((l1.length : Int) - 1)) < (l1.length : Int) then ((codicilref03_number.f k s0_0 s0_1 s0_2 s0_3 s0_4 2).bind fun bt187 => (codicilref03_next.j0 k l1 a3 (rd l1 (wrap64 ((l1.length : Int) - 1))) (wrap64 (3 + bt187.1)) s0_0 bt187.2.1 s0_2 bt187.2.2.1 bt187.2.2.2)) else (none)) else (none))) else (if a2 = 17 then ((codicilref03_number.f k s0_0 s0_1 s0_2 s0_3 s0_4 3).bind fun bt191 => (codicilref03_next.j0 k l1 a3 0 (wrap64 (3 + bt191.1)) s0_0 bt191.2.1 s0_2 bt191.2.2.1 bt191.2.2.2)) else (if a2 = 18 then ((codicilref03_number.f k s0_0 s0_1 s0_2 s0_3 s0_4 7).bind fun bt195 => (codicilref03_next.j0 k l1 a3 0 (wrap64 (11 + bt195.1)) s0_0 bt195.2.1 s0_2 bt195.2.2.1 bt195.2.2.2)) else (codicilref03_next.j0 k l1 a3 a2 1 s0_0 s0_1 s0_2 s0_3 s0_4)))) = some (r1, r2, r3, r4) := h
  clear h
  have HC5 := Aside0.mk H
  clear H
  go_enter Tryd.func57, Tryd.ntmps57
  go_upto_block 0 with (fail)
  go_cut [9, 10] (fun v9 v10 wc => ∃ (kq : Nat) (x9_4 : Int) (x10_4 : Int) (x1001_4 : Int) (x1003_4 : Int) (x1004_4 : Int), v9 = .int .i64 x9_4 ∧ v10 = .int .i64 x10_4 ∧ Aside0 (codicilref03_next.j0 kq l1 a3 x9_4 x10_4 s0_0 x1001_4 s0_2 x1003_4 x1004_4 = some (r1, r2, r3, r4)) ∧ Aside0 (kq ≤ k) ∧ Aside0 (Kd.R (Kd.int .i64) 3 wc w0.heap.size (fun k_ => (P1_ k_ ∨ w.heap.size ≤ k_)) u9000_ l1) ∧ Aside0 (IsS47 w0 wc g s0_0 x1001_4 s0_2 x1003_4 x1004_4) ∧ Aside0 (Kept w wc (fun k_ => (P1_ k_) ∨ k_ = g)) ∧ Aside0 (Below w0.heap.size w0 wc))
  case first =>
    have H := HC5.out
    clear HC5
    by_cases c6 : a2 = 16
    · rw [if_pos c6] at H
      have c6b0 : (a2 == 16) = true := beq_iff_eq.mpr c6
      have c6b1 : (a2 != 16) = false := bne_eq_false_iff_eq.mpr c6
      clear c6
      (first | rw [c6b0] | (simp only [i64_w, i32_w]; rw [c6b0]) | skip)
      by_cases c7 : (l1.length : Int) = 0
      · rw [if_pos c7] at H
        have c7b0 : ((l1.length : Int) == 0) = true := beq_iff_eq.mpr c7
        have c7b1 : ((l1.length : Int) != 0) = false := bne_eq_false_iff_eq.mpr c7
        clear c7
        replace H := Option.bind_eq_some_iff.mp H
        obtain ⟨⟨t183, t184, t185⟩, A80, H⟩ := H
        replace H : (some (l1, t183, t184, t185)) = some (r1, r2, r3, r4) := H
        have A8 := Aside0.mk A80
        clear A80
        simp only [Option.some.injEq, Prod.mk.injEq] at H
        obtain ⟨rfl, rfl, rfl, rfl⟩ := H
        obtain ⟨Ao9, co9, eo9⟩ := Kd.R_slice HO1.out
        subst eo9
        go_wp2_with (first | ((with_reducible refine gate_callee (f := 35) rfl ?_); refine goesL_ (some 20) rfl rfl Tryd.func35 (by kernel_rfl) rfl #[.pointer (some ⟨g, 0, none⟩)] rfl (by (try simp only [List.map_toArray, List.map_cons, List.map_nil]); first | done | rfl | (simp only [List.length_drop, List.length_take]; rfl)) ?_; (with_reducible refine (codicilref03_fail.calls g s0_0 s0_1 s0_2 s0_3 s0_4 t183 t184 t185 w0 _ ?side1 ?side2 A8.out).mono ?_); (case side1 => repeat (first | (with_reducible first | exact HI0.out | apply IsS47.alloc | apply IsS47.drewN | apply IsS47.drew | apply IsS47.set_1 | apply IsS47.set_3 | apply IsS47.set_4) | exact HI0.out)); (case side2 => repeat (first | (with_reducible first | exact HB.out | apply below_alloc | apply pw_below_drewN | apply below_drew1 | refine below_set ?_ (IsS47.ge HI0.out)) | exact HB.out)); rintro e w10 ⟨rfl, hi, hb, hk⟩; refine ⟨_, rfl, ?_⟩; have n0_ := Aside0.mk (Kd.R_mono (Kd.R_keep (IsS47.apart (show IsS47 w0 _ g s0_0 s0_1 s0_2 s0_3 s0_4 from by repeat (first | (with_reducible first | exact HI0.out | apply IsS47.alloc | apply IsS47.drewN | apply IsS47.drew | apply IsS47.set_1 | apply IsS47.set_3 | apply IsS47.set_4) | exact HI0.out)) (by (with_reducible repeat (first | apply Kd.R_alloc | apply Kd.R_drewN | apply Kd.R_drew)); exact HO1.out) (by decide)) hk (fun _ h => h.2)) (fun _ h => h.1)); have n1_ := Aside0.mk (Kept.of_keep (S := (fun k_ => (P1_ k_) ∨ k_ = g)) (by repeat (first | (with_reducible first | exact HK.out | apply Kept.alloc | apply Kept.drewN | apply Kept.drew | refine Kept.setCell ?_ (.inl (.inr rfl)) _) | exact HK.out)) hk (.inl (.inr rfl))); have n2_ := Aside0.mk (hb); have n3_ := Aside0.mk (hi); clear HO1; clear HK; clear HB; clear HI0; have HO1 := n0_; have HK := n1_; have HB := n2_; have HI0 := n3_; clear n0_ n1_ n2_ n3_; (try clear hb); (try clear hb2); (try clear hk); (try clear hi)))
        go_ret
        exact ⟨_, by first | rfl | (simp [errW_none, errW_some] <;> rfl) | (simp [*, errW_none, errW_some] <;> rfl), by (with_reducible repeat (first | apply Kd.R_alloc | apply Kd.R_drewN | apply Kd.R_drew)); exact HO1.out, by repeat (first | (with_reducible first | exact HI0.out | apply IsS47.alloc | apply IsS47.drewN | apply IsS47.drew | apply IsS47.set_1 | apply IsS47.set_3 | apply IsS47.set_4) | exact HI0.out), by repeat (first | (with_reducible first | exact HB.out | apply below_alloc | apply pw_below_drewN | apply below_drew1 | refine below_set ?_ (IsS47.ge HI0.out)) | exact HB.out), by repeat (first | (with_reducible first | exact HK.out | apply Kept.alloc | apply Kept.drewN | apply Kept.drew | refine Kept.setCell ?_ (.inl (.inr rfl)) _) | exact HK.out)⟩
      · rw [if_neg c7] at H
        have c7b0 : ((l1.length : Int) == 0) = false := beq_eq_false_iff_ne.mpr c7
        have c7b1 : ((l1.length : Int) != 0) = true := bne_iff_ne.mpr c7
        have c7b2 : ¬ (l1 = []) := fun h_ => c7 (by rw [h_]; rfl)
        obtain ⟨ji11, hji11⟩ : ∃ j_ : Int, (wrap64 ((l1.length : Int) - 1)) = j_ := ⟨_, rfl⟩
        replace H : (if 0 ≤ (ji11) then (if (ji11) < (l1.length : Int) then ((codicilref03_number.f k s0_0 s0_1 s0_2 s0_3 s0_4 2).bind fun bt187 => (codicilref03_next.j0 k l1 a3 (rd l1 (ji11)) (wrap64 (3 + bt187.1)) s0_0 bt187.2.1 s0_2 bt187.2.2.1 bt187.2.2.2)) else (none)) else (none)) = some (r1, r2, r3, r4) := by first | (rw [hji11] at H; exact H) | (simp only [hji11] at H ⊢; exact H)
        have hji11w : (IntKind.i64.wrap ((l1.length : Int) - 1)) = ji11 := (i64_w _).trans hji11
        by_cases c12 : 0 ≤ (ji11)
        · rw [if_pos c12] at H
          have c12b0 : decide (0 ≤ (ji11)) = true := decide_eq_true c12
          clear c12
          by_cases c13 : (ji11) < (l1.length : Int)
          · rw [if_pos c13] at H
            have c13b0 : decide ((ji11) < (l1.length : Int)) = true := decide_eq_true c13
            clear c13
            replace H := Option.bind_eq_some_iff.mp H
            obtain ⟨⟨t187, t188, t189, t190⟩, A140, H⟩ := H
            replace H : (codicilref03_next.j0 k l1 a3 (rd l1 (ji11)) (wrap64 (3 + t187)) s0_0 t188 s0_2 t189 t190) = some (r1, r2, r3, r4) := H
            have A14 := Aside0.mk A140
            clear A140
            have H' := Aside0.mk H
            clear H
            obtain ⟨Ao15, co15, eo15⟩ := Kd.R_slice HO1.out
            subst eo15
            have p186 : 0 ≤ ((ji11) : Int) := of_decide_eq_true (by first | (with_reducible assumption) | assumption)
            have q186 : (ji11) < (l1.length : Int) := of_decide_eq_true (by first | (with_reducible assumption) | assumption)
            obtain ⟨ad186, e186, hx186_0⟩ := Kd.at_int (Kd.R_reads' HO1.out).2.2 (ji11) p186 q186
            cases e186
            replace p186 := eq_true p186
            replace q186 := eq_true q186
            go_wp2_with (first | ((with_reducible refine gate_callee (f := 30) rfl ?_); refine goesL_ (some 29) rfl rfl Tryd.func30 (by kernel_rfl) rfl #[.pointer (some ⟨g, 0, none⟩), .int .i64 2] rfl (by (try simp only [List.map_toArray, List.map_cons, List.map_nil]); first | done | rfl | (simp only [List.length_drop, List.length_take]; rfl)) ?_; (with_reducible refine (codicilref03_number.calls k g s0_0 s0_1 s0_2 s0_3 s0_4 2 t187 t188 t189 t190 w0 _ ?side1 ?side2 A14.out).mono ?_); (case side1 => repeat (first | (with_reducible first | exact HI0.out | apply IsS47.alloc | apply IsS47.drewN | apply IsS47.drew | apply IsS47.set_1 | apply IsS47.set_3 | apply IsS47.set_4) | exact HI0.out)); (case side2 => repeat (first | (with_reducible first | exact HB.out | apply below_alloc | apply pw_below_drewN | apply below_drew1 | refine below_set ?_ (IsS47.ge HI0.out)) | exact HB.out)); rintro e w16 ⟨rfl, hi, hb, hk⟩; refine ⟨_, rfl, ?_⟩; have n0_ := Aside0.mk (Kd.R_mono (Kd.R_keep (IsS47.apart (show IsS47 w0 _ g s0_0 s0_1 s0_2 s0_3 s0_4 from by repeat (first | (with_reducible first | exact HI0.out | apply IsS47.alloc | apply IsS47.drewN | apply IsS47.drew | apply IsS47.set_1 | apply IsS47.set_3 | apply IsS47.set_4) | exact HI0.out)) (by (with_reducible repeat (first | apply Kd.R_alloc | apply Kd.R_drewN | apply Kd.R_drew)); exact HO1.out) (by decide)) hk (fun _ h => h.2)) (fun _ h => h.1)); have n1_ := Aside0.mk (Kept.of_keep (S := (fun k_ => (P1_ k_) ∨ k_ = g)) (by repeat (first | (with_reducible first | exact HK.out | apply Kept.alloc | apply Kept.drewN | apply Kept.drew | refine Kept.setCell ?_ (.inl (.inr rfl)) _) | exact HK.out)) hk (.inl (.inr rfl))); have n2_ := Aside0.mk (hb); have n3_ := Aside0.mk (hi); clear HO1; clear HK; clear HB; clear HI0; have HO1 := n0_; have HK := n1_; have HB := n2_; have HI0 := n3_; clear n0_ n1_ n2_ n3_; (try clear hb); (try clear hb2); (try clear hk); (try clear hi)))
            go_meet
            case rel => exact ⟨_, (rd l1 (ji11)), (wrap64 (3 + t187)), (t188), (t189), (t190), (by first | rfl | (simp; done) | (simp only [← hji11] <;> (first | rfl | simp)) | (simp [*]; done)), (by first | rfl | (simp; done) | (simp [*]; done)), H', ⟨by first | omega | exact Nat.le_refl _⟩, ⟨by (with_reducible repeat (first | apply Kd.R_alloc | apply Kd.R_drewN | apply Kd.R_drew)); exact HO1.out⟩, ⟨by repeat (first | (with_reducible first | exact HI0.out | apply IsS47.alloc | apply IsS47.drewN | apply IsS47.drew | apply IsS47.set_1 | apply IsS47.set_3 | apply IsS47.set_4) | exact HI0.out)⟩, ⟨by repeat (first | (with_reducible first | exact HK.out | apply Kept.alloc | apply Kept.drewN | apply Kept.drew | refine Kept.setCell ?_ (.inl (.inr rfl)) _) | exact HK.out)⟩, ⟨by repeat (first | (with_reducible first | exact HB.out | apply below_alloc | apply pw_below_drewN | apply below_drew1 | refine below_set ?_ (IsS47.ge HI0.out)) | exact HB.out)⟩⟩
          · rw [if_neg c13] at H
            exact absurd H (by simp)
        · rw [if_neg c12] at H
          exact absurd H (by simp)
    · rw [if_neg c6] at H
      have c6b0 : (a2 == 16) = false := beq_eq_false_iff_ne.mpr c6
      have c6b1 : (a2 != 16) = true := bne_iff_ne.mpr c6
      (first | rw [c6b0] | (simp only [i64_w, i32_w]; rw [c6b0]) | skip)
      by_cases c17 : a2 = 17
      · rw [if_pos c17] at H
        have c17b0 : (a2 == 17) = true := beq_iff_eq.mpr c17
        have c17b1 : (a2 != 17) = false := bne_eq_false_iff_eq.mpr c17
        clear c17
        replace H := Option.bind_eq_some_iff.mp H
        obtain ⟨⟨t191, t192, t193, t194⟩, A180, H⟩ := H
        replace H : (codicilref03_next.j0 k l1 a3 0 (wrap64 (3 + t191)) s0_0 t192 s0_2 t193 t194) = some (r1, r2, r3, r4) := H
        have A18 := Aside0.mk A180
        clear A180
        have H' := Aside0.mk H
        clear H
        go_wp2_with (first | ((with_reducible refine gate_callee (f := 30) rfl ?_); refine goesL_ (some 34) rfl rfl Tryd.func30 (by kernel_rfl) rfl #[.pointer (some ⟨g, 0, none⟩), .int .i64 3] rfl (by (try simp only [List.map_toArray, List.map_cons, List.map_nil]); first | done | rfl | (simp only [List.length_drop, List.length_take]; rfl)) ?_; (with_reducible refine (codicilref03_number.calls k g s0_0 s0_1 s0_2 s0_3 s0_4 3 t191 t192 t193 t194 w0 _ ?side1 ?side2 A18.out).mono ?_); (case side1 => repeat (first | (with_reducible first | exact HI0.out | apply IsS47.alloc | apply IsS47.drewN | apply IsS47.drew | apply IsS47.set_1 | apply IsS47.set_3 | apply IsS47.set_4) | exact HI0.out)); (case side2 => repeat (first | (with_reducible first | exact HB.out | apply below_alloc | apply pw_below_drewN | apply below_drew1 | refine below_set ?_ (IsS47.ge HI0.out)) | exact HB.out)); rintro e w19 ⟨rfl, hi, hb, hk⟩; refine ⟨_, rfl, ?_⟩; have n0_ := Aside0.mk (Kd.R_mono (Kd.R_keep (IsS47.apart (show IsS47 w0 _ g s0_0 s0_1 s0_2 s0_3 s0_4 from by repeat (first | (with_reducible first | exact HI0.out | apply IsS47.alloc | apply IsS47.drewN | apply IsS47.drew | apply IsS47.set_1 | apply IsS47.set_3 | apply IsS47.set_4) | exact HI0.out)) (by (with_reducible repeat (first | apply Kd.R_alloc | apply Kd.R_drewN | apply Kd.R_drew)); exact HO1.out) (by decide)) hk (fun _ h => h.2)) (fun _ h => h.1)); have n1_ := Aside0.mk (Kept.of_keep (S := (fun k_ => (P1_ k_) ∨ k_ = g)) (by repeat (first | (with_reducible first | exact HK.out | apply Kept.alloc | apply Kept.drewN | apply Kept.drew | refine Kept.setCell ?_ (.inl (.inr rfl)) _) | exact HK.out)) hk (.inl (.inr rfl))); have n2_ := Aside0.mk (hb); have n3_ := Aside0.mk (hi); clear HO1; clear HK; clear HB; clear HI0; have HO1 := n0_; have HK := n1_; have HB := n2_; have HI0 := n3_; clear n0_ n1_ n2_ n3_; (try clear hb); (try clear hb2); (try clear hk); (try clear hi)))
        go_meet
        case rel => exact ⟨_, (0), (wrap64 (3 + t191)), (t192), (t193), (t194), (by first | rfl | (simp; done) | (simp [*]; done)), (by first | rfl | (simp; done) | (simp [*]; done)), H', ⟨by first | omega | exact Nat.le_refl _⟩, ⟨by (with_reducible repeat (first | apply Kd.R_alloc | apply Kd.R_drewN | apply Kd.R_drew)); exact HO1.out⟩, ⟨by repeat (first | (with_reducible first | exact HI0.out | apply IsS47.alloc | apply IsS47.drewN | apply IsS47.drew | apply IsS47.set_1 | apply IsS47.set_3 | apply IsS47.set_4) | exact HI0.out)⟩, ⟨by repeat (first | (with_reducible first | exact HK.out | apply Kept.alloc | apply Kept.drewN | apply Kept.drew | refine Kept.setCell ?_ (.inl (.inr rfl)) _) | exact HK.out)⟩, ⟨by repeat (first | (with_reducible first | exact HB.out | apply below_alloc | apply pw_below_drewN | apply below_drew1 | refine below_set ?_ (IsS47.ge HI0.out)) | exact HB.out)⟩⟩
      · rw [if_neg c17] at H
        have c17b0 : (a2 == 17) = false := beq_eq_false_iff_ne.mpr c17
        have c17b1 : (a2 != 17) = true := bne_iff_ne.mpr c17
        by_cases c20 : a2 = 18
        · rw [if_pos c20] at H
          have c20b0 : (a2 == 18) = true := beq_iff_eq.mpr c20
          have c20b1 : (a2 != 18) = false := bne_eq_false_iff_eq.mpr c20
          clear c20
          replace H := Option.bind_eq_some_iff.mp H
          obtain ⟨⟨t195, t196, t197, t198⟩, A210, H⟩ := H
          replace H : (codicilref03_next.j0 k l1 a3 0 (wrap64 (11 + t195)) s0_0 t196 s0_2 t197 t198) = some (r1, r2, r3, r4) := H
          have A21 := Aside0.mk A210
          clear A210
          have H' := Aside0.mk H
          clear H
          go_wp2_with (first | ((with_reducible refine gate_callee (f := 30) rfl ?_); refine goesL_ (some 39) rfl rfl Tryd.func30 (by kernel_rfl) rfl #[.pointer (some ⟨g, 0, none⟩), .int .i64 7] rfl (by (try simp only [List.map_toArray, List.map_cons, List.map_nil]); first | done | rfl | (simp only [List.length_drop, List.length_take]; rfl)) ?_; (with_reducible refine (codicilref03_number.calls k g s0_0 s0_1 s0_2 s0_3 s0_4 7 t195 t196 t197 t198 w0 _ ?side1 ?side2 A21.out).mono ?_); (case side1 => repeat (first | (with_reducible first | exact HI0.out | apply IsS47.alloc | apply IsS47.drewN | apply IsS47.drew | apply IsS47.set_1 | apply IsS47.set_3 | apply IsS47.set_4) | exact HI0.out)); (case side2 => repeat (first | (with_reducible first | exact HB.out | apply below_alloc | apply pw_below_drewN | apply below_drew1 | refine below_set ?_ (IsS47.ge HI0.out)) | exact HB.out)); rintro e w22 ⟨rfl, hi, hb, hk⟩; refine ⟨_, rfl, ?_⟩; have n0_ := Aside0.mk (Kd.R_mono (Kd.R_keep (IsS47.apart (show IsS47 w0 _ g s0_0 s0_1 s0_2 s0_3 s0_4 from by repeat (first | (with_reducible first | exact HI0.out | apply IsS47.alloc | apply IsS47.drewN | apply IsS47.drew | apply IsS47.set_1 | apply IsS47.set_3 | apply IsS47.set_4) | exact HI0.out)) (by (with_reducible repeat (first | apply Kd.R_alloc | apply Kd.R_drewN | apply Kd.R_drew)); exact HO1.out) (by decide)) hk (fun _ h => h.2)) (fun _ h => h.1)); have n1_ := Aside0.mk (Kept.of_keep (S := (fun k_ => (P1_ k_) ∨ k_ = g)) (by repeat (first | (with_reducible first | exact HK.out | apply Kept.alloc | apply Kept.drewN | apply Kept.drew | refine Kept.setCell ?_ (.inl (.inr rfl)) _) | exact HK.out)) hk (.inl (.inr rfl))); have n2_ := Aside0.mk (hb); have n3_ := Aside0.mk (hi); clear HO1; clear HK; clear HB; clear HI0; have HO1 := n0_; have HK := n1_; have HB := n2_; have HI0 := n3_; clear n0_ n1_ n2_ n3_; (try clear hb); (try clear hb2); (try clear hk); (try clear hi)))
          go_meet
          case rel => exact ⟨_, (0), (wrap64 (11 + t195)), (t196), (t197), (t198), (by first | rfl | (simp; done) | (simp [*]; done)), (by first | rfl | (simp; done) | (simp [*]; done)), H', ⟨by first | omega | exact Nat.le_refl _⟩, ⟨by (with_reducible repeat (first | apply Kd.R_alloc | apply Kd.R_drewN | apply Kd.R_drew)); exact HO1.out⟩, ⟨by repeat (first | (with_reducible first | exact HI0.out | apply IsS47.alloc | apply IsS47.drewN | apply IsS47.drew | apply IsS47.set_1 | apply IsS47.set_3 | apply IsS47.set_4) | exact HI0.out)⟩, ⟨by repeat (first | (with_reducible first | exact HK.out | apply Kept.alloc | apply Kept.drewN | apply Kept.drew | refine Kept.setCell ?_ (.inl (.inr rfl)) _) | exact HK.out)⟩, ⟨by repeat (first | (with_reducible first | exact HB.out | apply below_alloc | apply pw_below_drewN | apply below_drew1 | refine below_set ?_ (IsS47.ge HI0.out)) | exact HB.out)⟩⟩
        · rw [if_neg c20] at H
          have c20b0 : (a2 == 18) = false := beq_eq_false_iff_ne.mpr c20
          have c20b1 : (a2 != 18) = true := bne_iff_ne.mpr c20
          have H' := Aside0.mk H
          clear H
          go_wp2
          go_meet
          case rel => exact ⟨_, (a2), (1), (s0_1), (s0_3), (s0_4), (by first | rfl | (simp; done) | (simp [*]; done)), (by first | rfl | (simp; done) | (simp [*]; done)), H', ⟨by first | omega | exact Nat.le_refl _⟩, ⟨by (with_reducible repeat (first | apply Kd.R_alloc | apply Kd.R_drewN | apply Kd.R_drew)); exact HO1.out⟩, ⟨by repeat (first | (with_reducible first | exact HI0.out | apply IsS47.alloc | apply IsS47.drewN | apply IsS47.drew | apply IsS47.set_1 | apply IsS47.set_3 | apply IsS47.set_4) | exact HI0.out)⟩, ⟨by repeat (first | (with_reducible first | exact HK.out | apply Kept.alloc | apply Kept.drewN | apply Kept.drew | refine Kept.setCell ?_ (.inl (.inr rfl)) _) | exact HK.out)⟩, ⟨by repeat (first | (with_reducible first | exact HB.out | apply below_alloc | apply pw_below_drewN | apply below_drew1 | refine below_set ?_ (IsS47.ge HI0.out)) | exact HB.out)⟩⟩
  case rest =>
    clear HC5
    try clear c1
    try clear p1
    try clear q1
    try clear hx1
    try clear c2
    try clear p2
    try clear c3
    try clear c5
    try clear c6
    try clear c6b0
    try clear c6b1
    try clear p6
    try clear c7
    try clear c7b0
    try clear c7b1
    try clear c7b2
    try clear c12
    try clear c12b0
    try clear c13
    try clear c13b0
    try clear c17
    try clear c17b0
    try clear c17b1
    try clear p18
    try clear q18
    try clear hx18
    try clear c20
    try clear c20b0
    try clear c20b1
    try clear hx186_0
    try clear p186
    try clear q186
    obtain ⟨kq, x9_4, x10_4, x1001_4, x1003_4, x1004_4, rfl, rfl, HA, HJ4, HO_1, HI0, HK, HB⟩ := hcut
    cases kq with
    | zero => exact absurd HA.out (by simp [codicilref03_next.j0])
    | succ kj4 =>
      have H := HA.out
      clear HA
      simp only [codicilref03_next.j0] at H
      have HC23 := Aside0.mk H
      clear H
      obtain ⟨Ao24, co24, eo24⟩ := Kd.R_slice HO_1.out
      subst eo24
      go_upto_if 46 with (fail)
      go_cut [] (fun wc => ∃ (kq : Nat) (x1001_22 : Int) (x1003_22 : Int) (x1004_22 : Int), Aside0 (codicilref03_next.j1 kq l1 x9_4 x10_4 s0_0 x1001_22 s0_2 x1003_22 x1004_22 = some (r1, r2, r3, r4)) ∧ Aside0 (kq ≤ kj4) ∧ Aside0 (Kd.R (Kd.int .i64) 3 wc w0.heap.size (fun k_ => (P1_ k_ ∨ w.heap.size ≤ k_)) (.slice Ao24 l1.length co24) l1) ∧ Aside0 (IsS47 w0 wc g s0_0 x1001_22 s0_2 x1003_22 x1004_22) ∧ Aside0 (Kept w wc (fun k_ => (P1_ k_) ∨ k_ = g)) ∧ Aside0 (Below w0.heap.size w0 wc))
      case first =>
        have H := HC23.out
        clear HC23
        by_cases c25 : (wrap64 ((l1.length : Int) + x10_4)) > a3
        · rw [if_pos c25] at H
          have c25b0 : decide (a3 < (wrap64 ((l1.length : Int) + x10_4))) = true := decide_eq_true c25
          clear c25
          (first | rw [c25b0] | (simp only [i64_w, i32_w]; rw [c25b0]) | skip)
          replace H := Option.bind_eq_some_iff.mp H
          obtain ⟨⟨t199, t200, t201⟩, A260, H⟩ := H
          replace H : (codicilref03_next.j1 kj4 l1 x9_4 x10_4 s0_0 t199 s0_2 t200 t201) = some (r1, r2, r3, r4) := H
          have A26 := Aside0.mk A260
          clear A260
          have H' := Aside0.mk H
          clear H
          go_wp2_with (first | ((with_reducible refine gate_callee (f := 35) rfl ?_); refine goesL_ (some 48) rfl rfl Tryd.func35 (by kernel_rfl) rfl #[.pointer (some ⟨g, 0, none⟩)] rfl (by (try simp only [List.map_toArray, List.map_cons, List.map_nil]); first | done | rfl | (simp only [List.length_drop, List.length_take]; rfl)) ?_; (with_reducible refine (codicilref03_fail.calls g s0_0 x1001_4 s0_2 x1003_4 x1004_4 t199 t200 t201 w0 _ ?side1 ?side2 A26.out).mono ?_); (case side1 => repeat (first | (with_reducible first | exact HI0.out | apply IsS47.alloc | apply IsS47.drewN | apply IsS47.drew | apply IsS47.set_1 | apply IsS47.set_3 | apply IsS47.set_4) | exact HI0.out)); (case side2 => repeat (first | (with_reducible first | exact HB.out | apply below_alloc | apply pw_below_drewN | apply below_drew1 | refine below_set ?_ (IsS47.ge HI0.out)) | exact HB.out)); rintro e w27 ⟨rfl, hi, hb, hk⟩; refine ⟨_, rfl, ?_⟩; have n0_ := Aside0.mk (Kd.R_mono (Kd.R_keep (IsS47.apart (show IsS47 w0 _ g s0_0 x1001_4 s0_2 x1003_4 x1004_4 from by repeat (first | (with_reducible first | exact HI0.out | apply IsS47.alloc | apply IsS47.drewN | apply IsS47.drew | apply IsS47.set_1 | apply IsS47.set_3 | apply IsS47.set_4) | exact HI0.out)) (by (with_reducible repeat (first | apply Kd.R_alloc | apply Kd.R_drewN | apply Kd.R_drew)); exact HO_1.out) (by decide)) hk (fun _ h => h.2)) (fun _ h => h.1)); have n1_ := Aside0.mk (Kept.of_keep (S := (fun k_ => (P1_ k_) ∨ k_ = g)) (by repeat (first | (with_reducible first | exact HK.out | apply Kept.alloc | apply Kept.drewN | apply Kept.drew | refine Kept.setCell ?_ (.inl (.inr rfl)) _) | exact HK.out)) hk (.inl (.inr rfl))); have n2_ := Aside0.mk (hb); have n3_ := Aside0.mk (hi); clear HO_1; clear HK; clear HB; clear HI0; have HO_1 := n0_; have HK := n1_; have HB := n2_; have HI0 := n3_; clear n0_ n1_ n2_ n3_; (try clear hb); (try clear hb2); (try clear hk); (try clear hi)))
          go_meet
          case rel => exact ⟨_, (t199), (t200), (t201), H', ⟨by have := HJ4.out; first | omega | exact Nat.le_refl _⟩, ⟨by (with_reducible repeat (first | apply Kd.R_alloc | apply Kd.R_drewN | apply Kd.R_drew)); exact HO_1.out⟩, ⟨by repeat (first | (with_reducible first | exact HI0.out | apply IsS47.alloc | apply IsS47.drewN | apply IsS47.drew | apply IsS47.set_1 | apply IsS47.set_3 | apply IsS47.set_4) | exact HI0.out)⟩, ⟨by repeat (first | (with_reducible first | exact HK.out | apply Kept.alloc | apply Kept.drewN | apply Kept.drew | refine Kept.setCell ?_ (.inl (.inr rfl)) _) | exact HK.out)⟩, ⟨by repeat (first | (with_reducible first | exact HB.out | apply below_alloc | apply pw_below_drewN | apply below_drew1 | refine below_set ?_ (IsS47.ge HI0.out)) | exact HB.out)⟩⟩
        · rw [if_neg c25] at H
          have c25b0 : decide (a3 < (wrap64 ((l1.length : Int) + x10_4))) = false := decide_eq_false c25
          clear c25
          (first | rw [c25b0] | (simp only [i64_w, i32_w]; rw [c25b0]) | skip)
          have H' := Aside0.mk H
          clear H
          go_wp2
          go_meet
          case rel => exact ⟨_, (x1001_4), (x1003_4), (x1004_4), H', ⟨by have := HJ4.out; first | omega | exact Nat.le_refl _⟩, ⟨by (with_reducible repeat (first | apply Kd.R_alloc | apply Kd.R_drewN | apply Kd.R_drew)); exact HO_1.out⟩, ⟨by repeat (first | (with_reducible first | exact HI0.out | apply IsS47.alloc | apply IsS47.drewN | apply IsS47.drew | apply IsS47.set_1 | apply IsS47.set_3 | apply IsS47.set_4) | exact HI0.out)⟩, ⟨by repeat (first | (with_reducible first | exact HK.out | apply Kept.alloc | apply Kept.drewN | apply Kept.drew | refine Kept.setCell ?_ (.inl (.inr rfl)) _) | exact HK.out)⟩, ⟨by repeat (first | (with_reducible first | exact HB.out | apply below_alloc | apply pw_below_drewN | apply below_drew1 | refine below_set ?_ (IsS47.ge HI0.out)) | exact HB.out)⟩⟩
      case rest =>
        clear HC23
        try clear c1
        try clear p1
        try clear q1
        try clear hx1
        try clear c2
        try clear p2
        try clear c3
        try clear c5
        try clear c6
        try clear c6b0
        try clear c6b1
        try clear p6
        try clear c7
        try clear c7b0
        try clear c7b1
        try clear c7b2
        try clear c12
        try clear c12b0
        try clear c13
        try clear c13b0
        try clear c17
        try clear c17b0
        try clear c17b1
        try clear p18
        try clear q18
        try clear hx18
        try clear c20
        try clear c20b0
        try clear c20b1
        try clear c25
        try clear c25b0
        try clear hx186_0
        try clear p1
        try clear p18
        try clear p186
        try clear p2
        try clear p6
        try clear q1
        try clear q18
        try clear q186
        obtain ⟨kq, x1001_22, x1003_22, x1004_22, HA, HJ22, HO_1, HI0, HK, HB⟩ := hcut
        cases kq with
        | zero => exact absurd HA.out (by simp [codicilref03_next.j1])
        | succ kj22 =>
          have H := HA.out
          clear HA
          simp only [codicilref03_next.j1] at H
          by_cases c28 : x1004_22 = 0
          · rw [if_pos c28] at H
            have c28b0 : (x1004_22 == 0) = true := beq_iff_eq.mpr c28
            have c28b1 : (x1004_22 != 0) = false := bne_eq_false_iff_eq.mpr c28
            clear c28
            have H' := Aside0.mk H
            clear H
            obtain ⟨ASz29_0, cSz29_0, ASz29_2, cSz29_2, HGz29, hgz29, HSz29_0, HSz29_2⟩ := HI0.out
            have hcz29_0 := cellS47_0 HGz29
            have hcz29_1 := cellS47_1 HGz29
            have hcz29_2 := cellS47_2 HGz29
            have hcz29_3 := cellS47_3 HGz29
            have hcz29_4 := cellS47_4 HGz29
            have hfz29_1 := blk_frozen HGz29 1
            have hfz29_3 := blk_frozen HGz29 3
            have hfz29_4 := blk_frozen HGz29 4
            clear HGz29 hgz29
            go_wp2
            go_loopg [1, 11] kj22 (fun kq v1 v11 w' => ∃ (x1_3 : List Int) (x11_3 : Int), v11 = .int .i64 x11_3 ∧ Aside0 (codicilref03_next.l0 kq x1_3 x9_4 x10_4 x11_3 s0_0 x1001_22 s0_2 x1003_22 x1004_22 = some (r1, r2, r3, r4)) ∧ Aside0 (kq ≤ kj22) ∧ Aside0 (Kd.R (Kd.int .i64) 3 w' w0.heap.size (fun k_ => (P1_ k_ ∨ w.heap.size ≤ k_)) v1 x1_3) ∧ Aside0 (IsS47 w0 w' g s0_0 x1001_22 s0_2 x1003_22 x1004_22) ∧ Aside0 (Kept w w' (fun k_ => (P1_ k_) ∨ k_ = g)) ∧ Aside0 (Below w0.heap.size w0 w'))
            case atStart => exact ⟨(l1), (0), (by first | rfl | (simp; done) | (simp [*]; done)), H', ⟨Nat.le_refl _⟩, ⟨by (with_reducible repeat (first | apply Kd.R_alloc | apply Kd.R_drewN | apply Kd.R_drew)); exact HO_1.out⟩, ⟨by repeat (first | (with_reducible first | exact HI0.out | apply IsS47.alloc | apply IsS47.drewN | apply IsS47.drew | apply IsS47.set_1 | apply IsS47.set_3 | apply IsS47.set_4) | exact HI0.out)⟩, ⟨by repeat (first | (with_reducible first | exact HK.out | apply Kept.alloc | apply Kept.drewN | apply Kept.drew | refine Kept.setCell ?_ (.inl (.inr rfl)) _) | exact HK.out)⟩, ⟨by repeat (first | (with_reducible first | exact HB.out | apply below_alloc | apply pw_below_drewN | apply below_drew1 | refine below_set ?_ (IsS47.ge HI0.out)) | exact HB.out)⟩⟩
            case round =>
              clear H'
              try clear c1
              try clear p1
              try clear q1
              try clear hx1
              try clear c2
              try clear p2
              try clear c3
              try clear c5
              try clear c6
              try clear c6b0
              try clear c6b1
              try clear p6
              try clear c7
              try clear c7b0
              try clear c7b1
              try clear c7b2
              try clear c12
              try clear c12b0
              try clear c13
              try clear c13b0
              try clear c17
              try clear c17b0
              try clear c17b1
              try clear p18
              try clear q18
              try clear hx18
              try clear c20
              try clear c20b0
              try clear c20b1
              try clear c25
              try clear c25b0
              try clear c28
              try clear c28b0
              try clear c28b1
              try clear hcz29_0
              try clear hcz29_1
              try clear hcz29_2
              try clear hcz29_3
              try clear hcz29_4
              try clear hfz29_1
              try clear hfz29_3
              try clear hfz29_4
              try clear hx186_0
              try clear p1
              try clear p18
              try clear p186
              try clear p2
              try clear p6
              try clear q1
              try clear q18
              try clear q186
              obtain ⟨x1_3, x11_3, rfl, HA, HK3, HO_1, HI0, HK, HB⟩ := hrel
              cases gk with
              | zero => exact absurd HA.out (by simp [codicilref03_next.l0])
              | succ k3 =>
                have H := HA.out
                clear HA
                simp only [codicilref03_next.l0] at H
                by_cases c30 : x11_3 < x10_4
                · rw [if_pos c30] at H
                  have c30b0 : decide (x11_3 < x10_4) = true := decide_eq_true c30
                  clear c30
                  by_cases c31 : x1_3.length < 17592186044416
                  · rw [if_pos c31] at H
                    have LMc31 := Aside0.mk c31
                    clear c31
                    obtain ⟨y202, hy202⟩ : ∃ y_ : List Int, y_ = (x1_3 ++ [x9_4]) := ⟨_, rfl⟩
                    replace H : (codicilref03_next.l0 k3 y202 x9_4 x10_4 (wrap64 (x11_3 + 1)) s0_0 x1001_22 s0_2 x1003_22 x1004_22) = some (r1, r2, r3, r4) := by first | (rw [hy202]; with_reducible exact H) | (have H2_ := (Option.bind_some _ _).symm.trans H; rw [hy202]; with_reducible exact H2_) | (have H2_ := (Option.bind_some _ _).symm.trans H; with_reducible exact H2_) | with_reducible exact H | (rw [hy202]; exact H) | exact H
                    have Ny202 := Aside0.mk hy202
                    clear hy202
                    have H' := Aside0.mk H
                    clear H
                    go_wp2_with (first | ((with_reducible refine gate_builtin (b := .append) (xs := #[.tmp 60, .tmp 62]) rfl ?_); at_builtin; refine Kd.R_append (Kd.int .i64) (w0 := w0) w0.heap.size rfl (.tmp 60) (.tmp 62) 51 3 (.int .i64 0) 8 rfl Tryd.underlying51 info3 rfl (by decide) (by omega) u1 x1_3 x9_4 [.int .i64 x9_4] (fun k_ => (P1_ k_ ∨ w.heap.size ≤ k_)) (fun _ => False) rfl rfl ?aP (fun _ hk => hk.elim) ?aF ?aO ?aB ?aS ?aL ?_; (case aP => exact rfl); (case aB => exact (by repeat (first | (with_reducible first | exact HB.out | apply below_alloc | apply pw_below_drewN | apply below_drew1 | refine below_set ?_ (IsS47.ge HI0.out)) | exact HB.out))); (case aF => exact (fun k_ hk => (.inr (Nat.le_trans (by first | exact HK.out.1 | exact (show Kept w _ (fun k_ => (P1_ k_) ∨ k_ = g) from by repeat (first | (with_reducible first | exact HK.out | apply Kept.alloc | apply Kept.drewN | apply Kept.drew | refine Kept.setCell ?_ (.inl (.inr rfl)) _) | exact HK.out)).1) hk)))); (case aO => exact (by (with_reducible repeat (first | apply Kd.R_alloc | apply Kd.R_drewN | apply Kd.R_drew)); exact HO_1.out)); (case aS => exact (below_size (by repeat (first | (with_reducible first | exact HB.out | apply below_alloc | apply pw_below_drewN | apply below_drew1 | refine below_set ?_ (IsS47.ge HI0.out)) | exact HB.out)))); (case aL => have := LMc31.out; omega); intro v203 w32 ho hb hg hat; rw [← Ny202.out] at ho; have n0_ := Aside0.mk (IsS47.grown (by repeat (first | (with_reducible first | exact HI0.out | apply IsS47.alloc | apply IsS47.drewN | apply IsS47.drew | apply IsS47.set_1 | apply IsS47.set_3 | apply IsS47.set_4) | exact HI0.out)) hg (IsS47.own_ne HI0.out HO_1.out (by decide))); have n1_ := Aside0.mk (hb); have n2_ := Aside0.mk (Kept.of_grown (S := (fun k_ => (P1_ k_) ∨ k_ = g)) hg (by repeat (first | (with_reducible first | exact HK.out | apply Kept.alloc | apply Kept.drewN | apply Kept.drew | refine Kept.setCell ?_ (.inl (.inr rfl)) _) | exact HK.out)) (fun k_ e_ => Or.imp_left Or.inl ((HO_1.out.1 k_ e_)))); have n3_ := Aside0.mk (ho); clear HI0; clear HB; clear HK; clear HO_1; have HI0 := n0_; have HB := n1_; have HK := n2_; have HO204 := n3_; clear n0_ n1_ n2_ n3_; clear ho hb hg hat))
                    go_roundg k3
                    case measure => have := HJ4.out; have := HJ22.out; have := HK3.out; omega
                    case rel => exact ⟨(y202), (wrap64 (x11_3 + 1)), (by first | rfl | (simp; done) | (simp [*]; done)), H', ⟨by have := HJ4.out; have := HJ22.out; have := HK3.out; omega⟩, ⟨by (with_reducible repeat (first | apply Kd.R_alloc | apply Kd.R_drewN | apply Kd.R_drew)); exact HO204.out⟩, ⟨by repeat (first | (with_reducible first | exact HI0.out | apply IsS47.alloc | apply IsS47.drewN | apply IsS47.drew | apply IsS47.set_1 | apply IsS47.set_3 | apply IsS47.set_4) | exact HI0.out)⟩, ⟨by repeat (first | (with_reducible first | exact HK.out | apply Kept.alloc | apply Kept.drewN | apply Kept.drew | refine Kept.setCell ?_ (.inl (.inr rfl)) _) | exact HK.out)⟩, ⟨by repeat (first | (with_reducible first | exact HB.out | apply below_alloc | apply pw_below_drewN | apply below_drew1 | refine below_set ?_ (IsS47.ge HI0.out)) | exact HB.out)⟩⟩
                  · rw [if_neg c31] at H
                    exact absurd H (by simp)
                · rw [if_neg c30] at H
                  have c30b0 : decide (x11_3 < x10_4) = false := decide_eq_false c30
                  clear c30
                  simp only [Option.some.injEq, Prod.mk.injEq] at H
                  obtain ⟨rfl, rfl, rfl, rfl⟩ := H
                  go_wp2
                  go_ret
                  exact ⟨_, by first | rfl | (simp [errW_none, errW_some] <;> rfl) | (simp [*, errW_none, errW_some] <;> rfl), by (with_reducible repeat (first | apply Kd.R_alloc | apply Kd.R_drewN | apply Kd.R_drew)); exact HO_1.out, by repeat (first | (with_reducible first | exact HI0.out | apply IsS47.alloc | apply IsS47.drewN | apply IsS47.drew | apply IsS47.set_1 | apply IsS47.set_3 | apply IsS47.set_4) | exact HI0.out), by repeat (first | (with_reducible first | exact HB.out | apply below_alloc | apply pw_below_drewN | apply below_drew1 | refine below_set ?_ (IsS47.ge HI0.out)) | exact HB.out), by repeat (first | (with_reducible first | exact HK.out | apply Kept.alloc | apply Kept.drewN | apply Kept.drew | refine Kept.setCell ?_ (.inl (.inr rfl)) _) | exact HK.out)⟩
          · rw [if_neg c28] at H
            have c28b0 : (x1004_22 == 0) = false := beq_eq_false_iff_ne.mpr c28
            have c28b1 : (x1004_22 != 0) = true := bne_iff_ne.mpr c28
            simp only [Option.some.injEq, Prod.mk.injEq] at H
            obtain ⟨rfl, rfl, rfl, rfl⟩ := H
            obtain ⟨ASz33_0, cSz33_0, ASz33_2, cSz33_2, HGz33, hgz33, HSz33_0, HSz33_2⟩ := HI0.out
            have hcz33_0 := cellS47_0 HGz33
            have hcz33_1 := cellS47_1 HGz33
            have hcz33_2 := cellS47_2 HGz33
            have hcz33_3 := cellS47_3 HGz33
            have hcz33_4 := cellS47_4 HGz33
            have hfz33_1 := blk_frozen HGz33 1
            have hfz33_3 := blk_frozen HGz33 3
            have hfz33_4 := blk_frozen HGz33 4
            clear HGz33 hgz33
            go_wp2
            go_ret
            exact ⟨_, by first | rfl | (simp [errW_none, errW_some] <;> rfl) | (simp [*, errW_none, errW_some] <;> rfl), by (with_reducible repeat (first | apply Kd.R_alloc | apply Kd.R_drewN | apply Kd.R_drew)); exact HO_1.out, by repeat (first | (with_reducible first | exact HI0.out | apply IsS47.alloc | apply IsS47.drewN | apply IsS47.drew | apply IsS47.set_1 | apply IsS47.set_3 | apply IsS47.set_4) | exact HI0.out), by repeat (first | (with_reducible first | exact HB.out | apply below_alloc | apply pw_below_drewN | apply below_drew1 | refine below_set ?_ (IsS47.ge HI0.out)) | exact HB.out), by repeat (first | (with_reducible first | exact HK.out | apply Kept.alloc | apply Kept.drewN | apply Kept.drew | refine Kept.setCell ?_ (.inl (.inr rfl)) _) | exact HK.out)⟩

-- NOT PRINTED: function 34 (codicilref03_lengths)

-- NOT PRINTED: function 16 (codicilref03_DocInflate)

-- NOT PRINTED: function 5 (codicillaw03_InflateFixed)

/-! ### codicilref01_Spare: function 17 -/
set_option maxRecDepth 8000 in
set_option maxHeartbeats 1000000 in
theorem spare_calls (A : Option Addr) (c : Nat) (l : List Int) (w : World) (hl : ReadsInt w .u8 A l.length l) (hn : l.length + 8 ≤ 140737488355328) :
    Calls Tryd.prog 17 #[.slice A l.length c] w fun e w' => ∃ g cap, e = .returned (.tuple #[.slice (some ⟨g, 0, none⟩) l.length cap, .slice (some ⟨g, 0, none⟩) (l.length + 4) cap]) ∧ Bs 5 w' w.heap.size (.slice (some ⟨g, 0, none⟩) (l.length + 4) cap) (l ++ [41, 42, 43, 44]) ∧ Below w.heap.size w w' := by
  have HL := Lib.hid hl
  clear hl
  have hmk := make_room (P := Tryd.prog) 22 5 (.int .u8 0) 1 Tryd.underlying22 infoU8 rfl ((l.length : Int) + 4) (l.length + 4) (by omega) (by omega) (by omega)
  go_enter Tryd.func17, Tryd.ntmps17
  go_wp2_with (first | (at_builtin; refine brow_append_row' (w0 := w) w.heap.size rfl (.tmp 9) (.tmp 10) 22 5 rfl Tryd.underlying22 infoU8 (.slice (some ⟨w.heap.size, 0, none⟩) 0 (l.length + 4)) [] l A l.length c rfl rfl (own_room w w.heap.size 5 (.int .u8 0) (l.length + 4) (Nat.le_refl _) (by simp only [maxLen]; omega)) (HL.out.allocS _) (below_alloc (Below.refl _ _) _) (by simp) (by simp; omega) ?_; intro v1 w1 hown1 hb1; have HO1 := Lib.hid hown1; have HB1 := Lib.hid hb1; clear hown1 hb1) | (at_builtin; refine brow_append_row' (w0 := w) w.heap.size rfl (.tmp 12) (.tmp 13) 22 5 rfl Tryd.underlying22 infoU8 v1 ([] ++ l) [41, 42, 43, 44] (some ⟨w1.heap.size, 0, none⟩) 4 4 rfl rfl (pw_own_below HO1.out (below_alloc (Below.refl _ _) _)) (own_reads' (own_lit w1 _ 5 .u8 [41, 42, 43, 44] (Nat.le_refl _) (by simp))) (HB1.out.alloc HB1.out.size _) (by have := HB1.out.size; simp; omega) (by simp; omega) ?_; intro v2 w2 hown2 hb2; have HO2 := Lib.hid hown2; have HB2 := Lib.hid hb2; clear hown2 hb2; obtain ⟨g, cap, hv2, _, _⟩ := World.ownsRow.form HO2.out (by simp); rw [show ([] ++ l ++ [41, 42, 43, 44] : List Int).length = l.length + 4 from by simp] at hv2; subst hv2; have hcap : l.length + 4 ≤ cap := (own_cap (n := l.length + 4) (by simpa [Bs] using HO2.out)).1; have hcap0 : l.length ≤ cap := (by omega)))
  go_ret2
  refine ⟨g, cap, rfl, ?_, HB2.out⟩
  have := HO2.out
  simpa using this


/-! ### codicilref01_Kept: function 18 -/
def codicilref01_Kept.f (l0 : List Int) (l1 : List Int) : Option (Bool) := if l1 = l0 ++ [41, 42, 43, 44] ∧ l1.length ≤ 9223372036854775807 then some true else none
set_option maxRecDepth 8000 in
set_option maxHeartbeats 1000000 in
theorem codicilref01_Kept.calls (A0 : Option Addr) (c0 : Nat) (l0 : List Int) (A1 : Option Addr) (c1 : Nat) (l1 : List Int) (r : Bool) (w : World) (hr0 : Kd.C (Kd.int .u8) w A0 l0.length l0) (hc0 : l0.length ≤ c0) (hr1 : Kd.C (Kd.int .u8) w A1 l1.length l1) (hc1 : l1.length ≤ c1) (h : codicilref01_Kept.f l0 l1 = some r) :
    Calls Tryd.prog 18 #[.slice A0 l0.length c0, .slice A1 l1.length c1] w fun e w' => e = .returned (.bool r) ∧ Below w.heap.size w w' := by
  unfold codicilref01_Kept.f at h
  split at h
  · rename_i hb
    obtain rfl := Option.some.inj h
    obtain ⟨he, hlm⟩ := hb
    have hlen : l1.length = l0.length + 4 := by rw [he]; simp
    have HR0 := Lib.hid hr0
    have HR1 := Lib.hid (Kd.reads_of_C (enc := Value.int .u8) (d := 0) hr1)
    have HE := Lib.hid he
    clear hr0 hr1 he h
    rw [hlen] at hc1 hlm
    rw [hlen]
    have h1 : (((l0.length : Int) + 4) == ((l0.length : Int) + 4)) = true := by simp
    have e1 : l1.take l0.length = l0 := by rw [HE.out]; simp
    have e2 : l1.drop l0.length = [41, 42, 43, 44] := by rw [HE.out]; simp
    obtain ⟨i011, hi011, _, hsz11, _⟩ := info_parts infoU8
    have hr1' := HR1.out
    rw [hlen] at hr1'
    obtain ⟨A2, hcut, hA2⟩ := print_cut_of (P := Tryd.prog) (Value.int .u8) 0 22 5 .i64 Tryd.underlying22 hi011 hsz11 A1 (l0.length + 4) c1 l0.length (by omega)
    have hr2 := hA2 w l1 hc1 hr1'
    rw [show l0.length + 4 - l0.length = 4 from by omega, e2] at hr2
    rw [show l0.length + 4 - l0.length = 4 from by omega] at hcut
    have hrt : ReadsOf (Value.int .u8) 0 w A1 l0.length l0 := by
      have h := hr1'.take_ l0.length (by omega)
      rwa [e1] at h
    have HT := Lib.hid hrt
    have H2 := Lib.hid hr2
    clear hrt hr2 hA2 hr1' e1 e2 hlen hi011 hsz11
    have hs1 : codicilref01_Same.f l0 l0 = some true := by simp [codicilref01_Same.f]
    have hs2 : codicilref01_Same.f [41, 42, 43, 44] [41, 42, 43, 44] = some true := by simp [codicilref01_Same.f]
    have HS1 := Lib.hid hs1
    have HS2 := Lib.hid hs2
    clear hs1 hs2
    go_enter Tryd.func18, Tryd.ntmps18
    go_wp2_with fail
    refine (codicilref01_Same.calls _ _ l0 _ _ l0 true _ (Kd.C_of_reads HT.out) (by omega) HR0.out hc0 HS1.out).mono ?_
    rintro e w1 ⟨rfl, hd⟩
    obtain ⟨n1, rfl⟩ := hd.out
    go_wp2_with fail
    refine (codicilref01_Same.calls A2 _ [41, 42, 43, 44] _ _ [41, 42, 43, 44] true _ (Kd.C_of_reads (H2.out.below ?_)) (by simp; omega) (toC ?_) (by simp) HS2.out).mono ?_
    · exact below_alloc (pw_below_drewN (Below.refl _ _) _) _
    · exact own_reads' (own_lit (w.drewN n1) _ 5 .u8 [41, 42, 43, 44] (Nat.le_refl _) (by simp))
    rintro e w1 ⟨rfl, hd⟩
    obtain ⟨n2, rfl⟩ := hd.out
    go_wp2_with fail
    go_ret
    exact ⟨rfl, pw_below_drewN (below_alloc (pw_below_drewN (Below.refl _ _) _) _) _⟩
  · cases h


-- NOT PRINTED: function 6 (codicillaw03_InflateMemory)

end Go.Proofs.YtkdklcamgcmifaaDoor.PI
