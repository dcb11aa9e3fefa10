-- Written by fprint.py, a program of this session, over the translation. Not trusted: Lean checks it.
import Derived.Test.YtkdklcamgcmifaaPDWx0
import Derived.Test.YtkdklcamgcmifaaPDWx1
import Derived.Test.YtkdklcamgcmifaaPDWx2
namespace Go.Proofs.Ytkdklcamgcmifaa.PDW
open Go.RowKit Go.Proofs.YtkdklcamgcmifaaW.PrintWords Go.Proofs.YtkdklcamgcmifaaW.PrintLast Go.Proofs.YtkdklcamgcmifaaW.PrintMore
attribute [local go_sem] max2_int min2_int max_two min_two max_three min_three max_four min_four   -- for this text's walks alone
set_option linter.unusedVariables false
set_option linter.unusedSimpArgs false

/-! ### codicilref04_match: function 29 -/
mutual
def codicilref04_match.l0 : Nat → List Int → Int → Int → Int → Int → Option (Int × Int)
  | 0, _, _, _, _, _ => none
  | k + 1, x0, x1, x6, x7, x8 => if x8 ≥ 0 then (codicilref04_match.j1 k x0 x1 x6 x7 x8 (decide ((wrap64 (x1 - x8)) ≤ 32768))) else (codicilref04_match.j1 k x0 x1 x6 x7 x8 false)
def codicilref04_match.j1 : Nat → List Int → Int → Int → Int → Int → Bool → Option (Int × Int)
  | 0, _, _, _, _, _, _ => none
  | k + 1, x0, x1, x6, x7, x8, x19 => if x19 = true then ((codicilref04_same.f k x0 x1 x8).bind fun t107 => (if t107 ≥ 3 then (if t107 > x6 then (codicilref04_match.l0 k x0 x1 t107 (wrap64 (x1 - x8)) (wrap64 (x8 - 1))) else (codicilref04_match.l0 k x0 x1 x6 x7 (wrap64 (x8 - 1)))) else (codicilref04_match.l0 k x0 x1 x6 x7 (wrap64 (x8 - 1))))) else (some (x6, x7))
end
def codicilref04_match.f (k : Nat) (l0 : List Int) (a1 : Int) : Option (Int × Int) := codicilref04_match.l0 k l0 a1 0 0 (wrap64 (a1 - 1))
theorem codicilref04_match.mono_l : ∀ k, (∀ y0 y1 y2 y3 y4, LeO (codicilref04_match.l0 k y0 y1 y2 y3 y4) (codicilref04_match.l0 (k + 1) y0 y1 y2 y3 y4)) ∧ (∀ y0 y1 y2 y3 y4 y5, LeO (codicilref04_match.j1 k y0 y1 y2 y3 y4 y5) (codicilref04_match.j1 (k + 1) y0 y1 y2 y3 y4 y5))
  | 0 => ⟨fun _ _ _ _ _ r h => by simp [codicilref04_match.l0] at h, fun _ _ _ _ _ _ r h => by simp [codicilref04_match.j1] at h⟩
  | k + 1 => by
    obtain ⟨ih0, ih1⟩ := codicilref04_match.mono_l k
    refine ⟨?_, ?_⟩
    · intro y0 y1 y2 y3 y4
      unfold codicilref04_match.l0
      repeat' first
      | (with_reducible exact ih0 _ _ _ _ _)
      | (with_reducible exact ih1 _ _ _ _ _ _)
      | (with_reducible exact codicilref04_same.mono _ _ _ _)
      | (with_reducible exact LeO.refl _)
      | (with_reducible exact LeO.none _)
      | (with_reducible refine LeO.ite ?_ ?_)
      | (with_reducible refine LeO.bind ?_ (fun _ => ?_))
      | exact ih0 _ _ _ _ _
      | exact ih1 _ _ _ _ _ _
      | exact codicilref04_same.mono _ _ _ _
      | exact LeO.none _
      | refine LeO.ite ?_ ?_
      | refine LeO.bind ?_ (fun _ => ?_)
    · intro y0 y1 y2 y3 y4 y5
      unfold codicilref04_match.j1
      repeat' first
      | (with_reducible exact ih0 _ _ _ _ _)
      | (with_reducible exact ih1 _ _ _ _ _ _)
      | (with_reducible exact codicilref04_same.mono _ _ _ _)
      | (with_reducible exact LeO.refl _)
      | (with_reducible exact LeO.none _)
      | (with_reducible refine LeO.ite ?_ ?_)
      | (with_reducible refine LeO.bind ?_ (fun _ => ?_))
      | exact ih0 _ _ _ _ _
      | exact ih1 _ _ _ _ _ _
      | exact codicilref04_same.mono _ _ _ _
      | exact LeO.none _
      | refine LeO.ite ?_ ?_
      | refine LeO.bind ?_ (fun _ => ?_)
theorem codicilref04_match.mono : ∀ a0 a1 k, LeO (codicilref04_match.f k a0 a1) (codicilref04_match.f (k + 1) a0 a1) := by
  intro a0 a1 k
  obtain ⟨ih0, ih1⟩ := codicilref04_match.mono_l k
  unfold codicilref04_match.f
  repeat' first
      | (with_reducible exact ih0 _ _ _ _ _)
      | (with_reducible exact ih1 _ _ _ _ _ _)
      | (with_reducible exact codicilref04_same.mono _ _ _ _)
      | (with_reducible exact LeO.refl _)
      | (with_reducible exact LeO.none _)
      | (with_reducible refine LeO.ite ?_ ?_)
      | (with_reducible refine LeO.bind ?_ (fun _ => ?_))
      | exact ih0 _ _ _ _ _
      | exact ih1 _ _ _ _ _ _
      | exact codicilref04_same.mono _ _ _ _
      | exact LeO.none _
      | refine LeO.ite ?_ ?_
      | refine LeO.bind ?_ (fun _ => ?_)
set_option maxHeartbeats 8000000 in
set_option maxRecDepth 100000 in
theorem codicilref04_match.calls (k : Nat) (A0 : Option Addr) (c0 : Nat) (l0 : List Int) (a1 : Int) (r1 : Int) (r2 : Int) (w : World) (hr0 : Kd.C (Kd.int .u8) w A0 l0.length l0) (hc0 : l0.length ≤ c0) (h : codicilref04_match.f k l0 a1 = some (r1, r2)) :
    Calls Try.prog 29 #[.slice A0 l0.length c0, .int .i64 a1] w fun e w' => e = .returned (.tuple #[.int .i64 r1, .int .i64 r2]) ∧ Drawn0 w w' := by
  have HR0 := Aside0.mk hr0
  have HC0 := Aside0.mk hc0
  clear hr0 hc0
  have H : (codicilref04_match.l0 k l0 a1 0 0 (wrap64 (a1 - 1))) = some (r1, r2) := h
  clear h
  have H' := Aside0.mk H
  clear H
  go_enter Try.func29, Try.ntmps29
  go_wp2
  go_loopg [6, 7, 8] k (fun kq v6 v7 v8 w' => ∃ (x6_1 : Int) (x7_1 : Int) (x8_1 : Int), v6 = .int .i64 x6_1 ∧ v7 = .int .i64 x7_1 ∧ v8 = .int .i64 x8_1 ∧ Aside0 (codicilref04_match.l0 kq l0 a1 x6_1 x7_1 x8_1 = some (r1, r2)) ∧ Aside0 (kq ≤ k) ∧ Drawn0 w w')
  case atStart => exact ⟨(0), (0), (wrap64 (a1 - 1)), (by first | rfl | (simp; done) | (simp [*]; done)), (by first | rfl | (simp; done) | (simp [*]; done)), (by first | rfl | (simp; done) | (simp [*]; done)), H', ⟨Nat.le_refl _⟩, by repeat (first | exact Drawn0.refl _ | apply Drawn0.step)⟩
  case round =>
    clear H'
    try clear c2
    try clear p2
    obtain ⟨x6_1, x7_1, x8_1, rfl, rfl, rfl, HA, HK1, ⟨m1, rfl⟩⟩ := hrel
    cases gk with
    | zero => exact absurd HA.out (by simp [codicilref04_match.l0])
    | succ k1 =>
      have H := HA.out
      clear HA
      simp only [codicilref04_match.l0] at H
      have HC3 := Aside0.mk H
      clear H
      go_upto_region 3 with (fail)
      go_cut [19] (fun v19 wc => ∃ (kq : Nat) (x19_2 : Bool), v19 = .bool x19_2 ∧ Aside0 (codicilref04_match.j1 kq l0 a1 x6_1 x7_1 x8_1 x19_2 = some (r1, r2)) ∧ Aside0 (kq ≤ k1) ∧ Drawn0 w wc)
      case first =>
        have H := HC3.out
        clear HC3
        by_cases c4 : x8_1 ≥ 0
        · rw [if_pos c4] at H
          have c4b0 : decide (0 ≤ x8_1) = true := decide_eq_true c4
          clear c4
          (first | rw [c4b0] | (simp only [i64_w, i32_w]; rw [c4b0]) | skip)
          have H' := Aside0.mk H
          clear H
          go_wp2
          go_meet
          case rel => exact ⟨_, (decide ((wrap64 (a1 - x8_1)) ≤ 32768)), (by first | rfl | (simp; done) | (simp [*]; done)), H', ⟨by have := HK1.out; first | omega | exact Nat.le_refl _⟩, by repeat (first | exact Drawn0.refl _ | apply Drawn0.step)⟩
        · rw [if_neg c4] at H
          have c4b0 : decide (0 ≤ x8_1) = false := decide_eq_false c4
          clear c4
          (first | rw [c4b0] | (simp only [i64_w, i32_w]; rw [c4b0]) | skip)
          have H' := Aside0.mk H
          clear H
          go_wp2
          go_meet
          case rel => exact ⟨_, (false), (by first | rfl | (simp; done) | (simp [*]; done)), H', ⟨by have := HK1.out; first | omega | exact Nat.le_refl _⟩, by repeat (first | exact Drawn0.refl _ | apply Drawn0.step)⟩
      case rest =>
        clear HC3
        try clear c2
        try clear p2
        try clear c4
        try clear c4b0
        try clear p2
        obtain ⟨kq, x19_2, rfl, HA, HJ2, ⟨mc2, rfl⟩⟩ := hcut
        cases kq with
        | zero => exact absurd HA.out (by simp [codicilref04_match.j1])
        | succ kj2 =>
          have H := HA.out
          clear HA
          simp only [codicilref04_match.j1] at H
          by_cases c5 : x19_2 = true
          · subst c5
            have H1 : ((codicilref04_same.f kj2 l0 a1 x8_1).bind fun t107 => (if t107 ≥ 3 then (if t107 > x6_1 then (codicilref04_match.l0 kj2 l0 a1 t107 (wrap64 (a1 - x8_1)) (wrap64 (x8_1 - 1))) else (codicilref04_match.l0 kj2 l0 a1 x6_1 x7_1 (wrap64 (x8_1 - 1)))) else (codicilref04_match.l0 kj2 l0 a1 x6_1 x7_1 (wrap64 (x8_1 - 1))))) = some (r1, r2) := by rw [if_pos rfl] at H; exact H
            clear H
            have H := H1
            clear H1
            replace H := Option.bind_eq_some_iff.mp H
            obtain ⟨t107, A60, H⟩ := H
            replace H : (if t107 ≥ 3 then (if t107 > x6_1 then (codicilref04_match.l0 kj2 l0 a1 t107 (wrap64 (a1 - x8_1)) (wrap64 (x8_1 - 1))) else (codicilref04_match.l0 kj2 l0 a1 x6_1 x7_1 (wrap64 (x8_1 - 1)))) else (codicilref04_match.l0 kj2 l0 a1 x6_1 x7_1 (wrap64 (x8_1 - 1)))) = some (r1, r2) := H
            have A6 := Aside0.mk A60
            clear A60
            by_cases c7 : t107 ≥ 3
            · rw [if_pos c7] at H
              have c7b0 : decide (3 ≤ t107) = true := decide_eq_true c7
              clear c7
              by_cases c8 : t107 > x6_1
              · rw [if_pos c8] at H
                have c8b0 : decide (x6_1 < t107) = true := decide_eq_true c8
                clear c8
                have H' := Aside0.mk H
                clear H
                go_wp2_with (first | ((with_reducible refine gate_callee (f := 40) rfl ?_); refine goesL_ (some 25) rfl rfl Try.func40 (by kernel_rfl) rfl #[.slice A0 l0.length c0, .int .i64 a1, .int .i64 x8_1] rfl (by (try simp only [List.map_toArray, List.map_cons, List.map_nil]); first | done | rfl | (simp only [List.length_drop, List.length_take]; rfl)) ?_; (with_reducible refine (codicilref04_same.calls kj2 _ _ l0 a1 x8_1 t107 _ ?side1 ?side2 A6.out).mono ?_); (case side1 => repeat (first | exact HR0.out | (with_reducible refine Kd.C_alloc ?_ _) | (with_reducible refine Kd.C_drewN ?_ _) | (with_reducible refine Kd.C_drew ?_))); (case side2 => exact HC0.out); rintro e w' ⟨rfl, ⟨nd, rfl⟩⟩; refine ⟨_, rfl, ?_⟩))
                go_roundg kj2
                case measure => have := HK1.out; have := HJ2.out; omega
                case rel => exact ⟨(t107), (wrap64 (a1 - x8_1)), (wrap64 (x8_1 - 1)), (by first | rfl | (simp; done) | (simp [*]; done)), (by first | rfl | (simp; done) | (simp [*]; done)), (by first | rfl | (simp; done) | (simp [*]; done)), H', ⟨by have := HK1.out; have := HJ2.out; omega⟩, by repeat (first | exact Drawn0.refl _ | apply Drawn0.step)⟩
              · rw [if_neg c8] at H
                have c8b0 : decide (x6_1 < t107) = false := decide_eq_false c8
                clear c8
                have H' := Aside0.mk H
                clear H
                go_wp2_with (first | ((with_reducible refine gate_callee (f := 40) rfl ?_); refine goesL_ (some 25) rfl rfl Try.func40 (by kernel_rfl) rfl #[.slice A0 l0.length c0, .int .i64 a1, .int .i64 x8_1] rfl (by (try simp only [List.map_toArray, List.map_cons, List.map_nil]); first | done | rfl | (simp only [List.length_drop, List.length_take]; rfl)) ?_; (with_reducible refine (codicilref04_same.calls kj2 _ _ l0 a1 x8_1 t107 _ ?side1 ?side2 A6.out).mono ?_); (case side1 => repeat (first | exact HR0.out | (with_reducible refine Kd.C_alloc ?_ _) | (with_reducible refine Kd.C_drewN ?_ _) | (with_reducible refine Kd.C_drew ?_))); (case side2 => exact HC0.out); rintro e w' ⟨rfl, ⟨nd, rfl⟩⟩; refine ⟨_, rfl, ?_⟩))
                go_roundg kj2
                case measure => have := HK1.out; have := HJ2.out; omega
                case rel => exact ⟨(x6_1), (x7_1), (wrap64 (x8_1 - 1)), (by first | rfl | (simp; done) | (simp [*]; done)), (by first | rfl | (simp; done) | (simp [*]; done)), (by first | rfl | (simp; done) | (simp [*]; done)), H', ⟨by have := HK1.out; have := HJ2.out; omega⟩, by repeat (first | exact Drawn0.refl _ | apply Drawn0.step)⟩
            · rw [if_neg c7] at H
              have c7b0 : decide (3 ≤ t107) = false := decide_eq_false c7
              clear c7
              have H' := Aside0.mk H
              clear H
              go_wp2_with (first | ((with_reducible refine gate_callee (f := 40) rfl ?_); refine goesL_ (some 25) rfl rfl Try.func40 (by kernel_rfl) rfl #[.slice A0 l0.length c0, .int .i64 a1, .int .i64 x8_1] rfl (by (try simp only [List.map_toArray, List.map_cons, List.map_nil]); first | done | rfl | (simp only [List.length_drop, List.length_take]; rfl)) ?_; (with_reducible refine (codicilref04_same.calls kj2 _ _ l0 a1 x8_1 t107 _ ?side1 ?side2 A6.out).mono ?_); (case side1 => repeat (first | exact HR0.out | (with_reducible refine Kd.C_alloc ?_ _) | (with_reducible refine Kd.C_drewN ?_ _) | (with_reducible refine Kd.C_drew ?_))); (case side2 => exact HC0.out); rintro e w' ⟨rfl, ⟨nd, rfl⟩⟩; refine ⟨_, rfl, ?_⟩))
              go_roundg kj2
              case measure => have := HK1.out; have := HJ2.out; omega
              case rel => exact ⟨(x6_1), (x7_1), (wrap64 (x8_1 - 1)), (by first | rfl | (simp; done) | (simp [*]; done)), (by first | rfl | (simp; done) | (simp [*]; done)), (by first | rfl | (simp; done) | (simp [*]; done)), H', ⟨by have := HK1.out; have := HJ2.out; omega⟩, by repeat (first | exact Drawn0.refl _ | apply Drawn0.step)⟩
          · replace c5 := Bool.eq_false_iff.mpr c5
            subst c5
            have H1 : (some (x6_1, x7_1)) = some (r1, r2) := by rw [if_neg (show ¬ (false = true) by decide)] at H; exact H
            clear H
            have H := H1
            clear H1
            simp only [Option.some.injEq, Prod.mk.injEq] at H
            obtain ⟨rfl, rfl⟩ := H
            go_wp2
            go_ret2
            exact ⟨by first | rfl | (simp; done) | (simp [*]; done), by repeat (first | exact Drawn0.refl _ | apply Drawn0.step)⟩

-- NOT PRINTED: function 41 (codicilref04_code)

/-! ### codicilref04_symbol: function 30 -/
set_option maxHeartbeats 1000000 in
theorem rsymbol_calls (base g : Nat) (W : World) (T N s : Nat) (hw : Bt base g W T N) (hs : s ≤ 287) (hN : N + 9 ≤ 1000000000000000) :
    Calls Try.prog 30 #[.pointer (some ⟨g, 0, none⟩), .int .i64 s] W fun e w' => BPuts base g W T N (symV s) (symN s) e w' := by
  have hW := Lib.hid hw
  clear hw
  by_cases h1 : s < 144
  · have hV : symV s = rev 8 (s + 48) := by unfold symV; rw [if_pos h1]
    have hM : symN s = 8 := by unfold symN; rw [if_pos h1]
    rw [hV, hM]
    have i1 : (s : Int) < 144 := by omega
    go_enter Try.func30, Try.ntmps30
    go_wp2_with fail
    try rw [show 48 + (s : Int) = ((s + 48 : Nat) : Int) from by omega]
    refine (rcode_calls base g W T N (s + 48) 8 hW.out (by omega) (by omega) (by omega)).mono ?_
    rintro e w2 ⟨rfl, h2, h3⟩
    go_wp2_with fail
    exact bodyPost_end (results_none rfl _ _ _) rfl ⟨rfl, h2, h3⟩
  · have i1 : ¬ (s : Int) < 144 := by omega
    by_cases h2 : s < 256
    · have hV : symV s = rev 9 (s + 256) := by unfold symV; rw [if_neg h1, if_pos h2]
      have hM : symN s = 9 := by unfold symN; rw [if_neg h1, if_pos h2]
      rw [hV, hM]
      have i2 : (s : Int) < 256 := by omega
      have e3 : 400 + (s : Int) - 144 = ((s + 256 : Nat) : Int) := by omega
      have E3 := Lib.hid e3
      clear e3
      go_enter Try.func30, Try.ntmps30
      go_wp2_with fail
      rw [E3.out]
      refine (rcode_calls base g W T N (s + 256) 9 hW.out (by omega) (by omega) (by omega)).mono ?_
      rintro e w2 ⟨rfl, h2, h3⟩
      go_wp2_with fail
      exact bodyPost_end (results_none rfl _ _ _) rfl ⟨rfl, h2, h3⟩
    · have i2 : ¬ (s : Int) < 256 := by omega
      by_cases h3 : s < 280
      · have hV : symV s = rev 7 (s - 256) := by unfold symV; rw [if_neg h1, if_neg h2, if_pos h3]
        have hM : symN s = 7 := by unfold symN; rw [if_neg h1, if_neg h2, if_pos h3]
        rw [hV, hM]
        have i3 : (s : Int) < 280 := by omega
        have e3 : (s : Int) - 256 = ((s - 256 : Nat) : Int) := by omega
        go_enter Try.func30, Try.ntmps30
        go_wp2_with fail
        try rw [e3]
        refine (rcode_calls base g W T N (s - 256) 7 hW.out (by omega) (by omega) (by omega)).mono ?_
        rintro e w2 ⟨rfl, h2, h3⟩
        go_wp2_with fail
        exact bodyPost_end (results_none rfl _ _ _) rfl ⟨rfl, h2, h3⟩
      · have hV : symV s = rev 8 (s - 88) := by unfold symV; rw [if_neg h1, if_neg h2, if_neg h3]
        have hM : symN s = 8 := by unfold symN; rw [if_neg h1, if_neg h2, if_neg h3]
        rw [hV, hM]
        have i3 : ¬ (s : Int) < 280 := by omega
        have e3 : 192 + (s : Int) - 280 = ((s - 88 : Nat) : Int) := by omega
        have E3 := Lib.hid e3
        clear e3
        go_enter Try.func30, Try.ntmps30
        go_wp2_with fail
        rw [E3.out]
        refine (rcode_calls base g W T N (s - 88) 8 hW.out (by omega) (by omega) (by omega)).mono ?_
        rintro e w2 ⟨rfl, h2, h3⟩
        go_wp2_with fail
        exact bodyPost_end (results_none rfl _ _ _) rfl ⟨rfl, h2, h3⟩


/-! ### codicilref03_Length: function 42 -/
def codicilref03_Length.f (a0 : Int) : Option (Int × Int) := if a0 = 285 then (some (258, 0)) else (if a0 < 265 then (some (wrap64 (a0 - 254), 0)) else (if 0 ≤ (wrap64 (Int.tdiv (wrap64 (a0 - 261)) 4)) then (some (wrap64 (3 + (shl .i64 (wrap64 (4 + (Int.tmod (wrap64 (a0 - 261)) 4))) (wrap64 (Int.tdiv (wrap64 (a0 - 261)) 4)))), wrap64 (Int.tdiv (wrap64 (a0 - 261)) 4))) else (none)))
set_option maxHeartbeats 8000000 in
set_option maxRecDepth 100000 in
theorem codicilref03_Length.calls (a0 : Int) (r1 : Int) (r2 : Int) (w : World) (h : codicilref03_Length.f a0 = some (r1, r2)) :
    Calls Try.prog 42 #[.int .i64 a0] w fun e w' => e = .returned (.tuple #[.int .i64 r1, .int .i64 r2]) ∧ Drawn0 w w' := by
  have H : (if a0 = 285 then (some (258, 0)) else (if a0 < 265 then (some (wrap64 (a0 - 254), 0)) else (if 0 ≤ (wrap64 (Int.tdiv (wrap64 (a0 - 261)) 4)) then (some (wrap64 (3 + (shl .i64 (wrap64 (4 + (Int.tmod (wrap64 (a0 - 261)) 4))) (wrap64 (Int.tdiv (wrap64 (a0 - 261)) 4)))), wrap64 (Int.tdiv (wrap64 (a0 - 261)) 4))) else (none)))) = some (r1, r2) := h
  clear h
  by_cases c2 : a0 = 285
  · rw [if_pos c2] at H
    have c2b0 : (a0 == 285) = true := beq_iff_eq.mpr c2
    have c2b1 : (a0 != 285) = false := bne_eq_false_iff_eq.mpr c2
    clear c2
    simp only [Option.some.injEq, Prod.mk.injEq] at H
    obtain ⟨rfl, rfl⟩ := H
    go_enter Try.func42, Try.ntmps42
    go_wp2
    go_ret2
    exact ⟨by first | rfl | (simp; done) | (simp [*]; done), by repeat (first | exact Drawn0.refl _ | apply Drawn0.step)⟩
  · rw [if_neg c2] at H
    have c2b0 : (a0 == 285) = false := beq_eq_false_iff_ne.mpr c2
    have c2b1 : (a0 != 285) = true := bne_iff_ne.mpr c2
    by_cases c3 : a0 < 265
    · rw [if_pos c3] at H
      have c3b0 : decide (a0 < 265) = true := decide_eq_true c3
      clear c3
      simp only [Option.some.injEq, Prod.mk.injEq] at H
      obtain ⟨rfl, rfl⟩ := H
      go_enter Try.func42, Try.ntmps42
      go_wp2
      go_ret2
      exact ⟨by first | rfl | (simp; done) | (simp [*]; done), by repeat (first | exact Drawn0.refl _ | apply Drawn0.step)⟩
    · rw [if_neg c3] at H
      have c3b0 : decide (a0 < 265) = false := decide_eq_false c3
      clear c3
      obtain ⟨ji4, hji4⟩ : ∃ j_ : Int, (wrap64 (Int.tdiv (wrap64 (a0 - 261)) 4)) = j_ := ⟨_, rfl⟩
      replace H : (if 0 ≤ (ji4) then (some (wrap64 (3 + (shl .i64 (wrap64 (4 + (Int.tmod (wrap64 (a0 - 261)) 4))) (ji4))), ji4)) else (none)) = some (r1, r2) := by first | (rw [hji4] at H; exact H) | (simp only [hji4] at H ⊢; exact H)
      have hji4w : (IntKind.i64.wrap (Int.tdiv (wrap64 (a0 - 261)) 4)) = ji4 := (i64_w _).trans hji4
      by_cases c5 : 0 ≤ (ji4)
      · rw [if_pos c5] at H
        have c5b0 := eq_true c5
        have c5b1 : decide (0 ≤ (ji4)) = true := decide_eq_true c5
        clear c5
        obtain ⟨ji6, hji6⟩ : ∃ j_ : Int, (shl .i64 (wrap64 (4 + (Int.tmod (wrap64 (a0 - 261)) 4))) (ji4)) = j_ := ⟨_, rfl⟩
        replace H : (some (wrap64 (3 + (ji6)), ji4)) = some (r1, r2) := by first | (rw [hji6] at H; exact H) | (simp only [hji6] at H ⊢; exact H)
        have hji6_ : (IntKind.i64.wrap ((wrap64 (4 + (Int.tmod (wrap64 (a0 - 261)) 4))) * 2 ^ min (ji4).toNat 64)) = ji6 := hji6
        have hji6z : (ji4) ≤ 64 → (IntKind.i64.wrap ((wrap64 (4 + (Int.tmod (wrap64 (a0 - 261)) 4))) * 2 ^ (ji4).toNat)) = ji6 := shl_small hji6
        have hji6y : (wrap64 ((wrap64 (4 + (Int.tmod (wrap64 (a0 - 261)) 4))) * 2 ^ min (ji4).toNat 64)) = ji6 := (i64_w _).symm.trans hji6_
        have hji6x : (ji4) ≤ 64 → (wrap64 ((wrap64 (4 + (Int.tmod (wrap64 (a0 - 261)) 4))) * 2 ^ (ji4).toNat)) = ji6 := fun h_ => (i64_w _).symm.trans (hji6z h_)
        simp only [Option.some.injEq, Prod.mk.injEq] at H
        obtain ⟨rfl, rfl⟩ := H
        go_enter Try.func42, Try.ntmps42
        go_wp2
        go_ret2
        exact ⟨by first | rfl | (simp; done) | (simp only [← hji4, ← hji6] <;> (first | rfl | simp)) | (simp [*]; done), by repeat (first | exact Drawn0.refl _ | apply Drawn0.step)⟩
      · rw [if_neg c5] at H
        exact absurd H (by simp)

/-! ### codicilref04_length: function 31 -/
def leastN (s : Nat) : Nat := if s = 285 then 258 else if s < 265 then s - 254 else 3 + (4 + (s - 261) % 4) * 2 ^ ((s - 261) / 4)
def moreN (s : Nat) : Nat := if s = 285 then 0 else if s < 265 then 0 else (s - 261) / 4
theorem len_table : ∀ s : Fin 286, 257 ≤ s.val → codicilref03_Length.f (s.val : Int) = some (((leastN s.val : Nat) : Int), ((moreN s.val : Nat) : Int)) := by decide +kernel
theorem len_pick : ∀ n : Fin 259, ∀ s : Fin 286, 3 ≤ n.val → lenS n.val ≤ s.val → ((leastN s.val ≤ n.val ∧ (s.val = 285 ∨ n.val < leastN s.val + 2 ^ moreN s.val)) ↔ s.val = lenS n.val) := by decide +kernel
theorem len_same : ∀ n : Fin 259, 3 ≤ n.val → 257 ≤ lenS n.val ∧ lenS n.val ≤ 285 ∧ lenX n.val = n.val - leastN (lenS n.val) ∧ lenE n.val = moreN (lenS n.val) ∧ lenX n.val < 2 ^ lenE n.val ∧ moreN (lenS n.val) ≤ 5 := by decide +kernel
theorem more_le : ∀ s : Fin 286, 257 ≤ s.val → moreN s.val ≤ 5 ∧ leastN s.val ≤ 300 := by decide +kernel
set_option maxHeartbeats 1000000 in
theorem rlength_calls (base g : Nat) (W : World) (T N n : Nat) (hw : Bt base g W T N) (hn0 : 3 ≤ n) (hn1 : n ≤ 258) (hN : N + 30 ≤ 1000000000000000) :
    Calls Try.prog 31 #[.pointer (some ⟨g, 0, none⟩), .int .i64 n] W fun e w' => BPuts base g W T N (lenV n) (lenN n) e w' := by
  have hW := Lib.hid hw
  have hsame := len_same ⟨n, by omega⟩ hn0
  have HS := Lib.hid hsame
  clear hw hsame
  go_enter Try.func31, Try.ntmps31
  go_wp2_with fail
  go_loopw [4] (fun i wr => ∃ s : Nat, lenS n ≤ s ∧ s ≤ 285 ∧ i = .int .i64 s ∧ ∃ m, wr = W.drewN m) (fun i _ => (intOf i).toNat)
  case atStart => exact ⟨285, HS.out.2.1, by omega, rfl, 0, rfl⟩
  case round =>
    obtain ⟨s, hs0, hs1, rfl, m, rfl⟩ := hrel
    have h257 : 257 ≤ s := Nat.le_trans HS.out.1 hs0
    have htab := len_table ⟨s, by omega⟩ h257
    have hmore := more_le ⟨s, by omega⟩ h257
    have hp := len_pick ⟨n, by omega⟩ ⟨s, by omega⟩ hn0 hs0
    simp only at htab hmore hp
    have HP := Lib.hid hp
    clear hp
    have HT := Lib.hid htab
    clear htab
    generalize hl : leastN s = l at *
    generalize hm : moreN s = q at *
    have hge : (257 : Int) ≤ (s : Int) := by omega
    go_wp2_with fail
    refine (codicilref03_Length.calls _ _ _ _ HT.out).mono ?_
    rintro e w1 ⟨rfl, hd⟩
    obtain ⟨m1, rfl⟩ := hd.out
    have hq0 : (0 : Int) ≤ (q : Int) := by omega
    have hq64 : (q : Int) < 64 := by omega
    have hq5 : q = 0 ∨ q = 1 ∨ q = 2 ∨ q = 3 ∨ q = 4 ∨ q = 5 := by omega
    have HL := Lib.hid hl
    have HM := Lib.hid hm
    clear hl hm
    rcases hq5 with rfl | rfl | rfl | rfl | rfl | rfl
    · go_wp2_with fail
      · have hs5 : s = 285 := by omega
        have hsn : s = lenS n := HP.out.1 ⟨by assumption, .inl hs5⟩
        have hE : lenE n = _ := HS.out.2.2.2.1.trans ((congrArg moreN hsn.symm).trans HM.out)
        have HE := Lib.hid hE
        have hX : (n : Int) - (l : Int) = ((lenX n : Nat) : Int) := by
          have h7 := HS.out.2.2.1
          rw [← hsn, HL.out] at h7
          have h8 : l ≤ n := by assumption
          omega
        have HX := Lib.hid hX
        have HSN := Lib.hid hsn
        have hsl := symN_le s
        have hsl2 := symN_le 285
        clear hE hX hsn
        refine (rsymbol_calls base g _ T N 285 (hW.out.drewN _) (by omega) (by omega)).mono ?_
        rintro e w2 ⟨rfl, hs2, hw2⟩
        have HS2 := Lib.hid hs2
        have HW2 := Lib.hid hw2
        clear hs2 hw2
        go_wp2_with fail
        rw [HX.out]
        refine (rnumber_calls base g w2 _ _ (lenX n) 0 HW2.out (by have h7 := HS.out.2.2.2.2.1; rw [HE.out] at h7; exact h7) (by omega) (by omega)).mono ?_
        rintro e w3 ⟨rfl, hs3, hw3⟩
        have HS3 := Lib.hid hs3
        have HW3 := Lib.hid hw3
        clear hs3 hw3
        go_wp2_with fail
        refine bodyPost_ret (results_none rfl _ _ _) rfl ?_
        have hfin := BPuts.mk' (e := .returned (.tuple #[])) ⟨rfl, ((SF.refl g W).drewN _).trans HS2.out, HW2.out⟩ ⟨rfl, HS3.out, HW3.out⟩
        unfold lenV lenN
        rw [HE.out, ← HSN.out]
        rw [hs5]
        exact hfin
      · have hor : ((s : Int) == 285) = true ∨ (n : Int) < (l : Int) + 1 := by assumption
        have hor2 : s = 285 ∨ n < l + 2 ^ 0 := by
          rcases hor with h | h
          · exact .inl (by simp at h; omega)
          · exact .inr (by omega)
        have hsn : s = lenS n := HP.out.1 ⟨by assumption, hor2⟩
        have hE : lenE n = _ := HS.out.2.2.2.1.trans ((congrArg moreN hsn.symm).trans HM.out)
        have HE := Lib.hid hE
        have hX : (n : Int) - (l : Int) = ((lenX n : Nat) : Int) := by
          have h7 := HS.out.2.2.1
          rw [← hsn, HL.out] at h7
          have h8 : l ≤ n := by assumption
          omega
        have HX := Lib.hid hX
        have HSN := Lib.hid hsn
        have hsl := symN_le s
        have hsl2 := symN_le 285
        clear hE hX hsn
        refine (rsymbol_calls base g _ T N s (hW.out.drewN _) (by omega) (by omega)).mono ?_
        rintro e w2 ⟨rfl, hs2, hw2⟩
        have HS2 := Lib.hid hs2
        have HW2 := Lib.hid hw2
        clear hs2 hw2
        go_wp2_with fail
        rw [HX.out]
        refine (rnumber_calls base g w2 _ _ (lenX n) 0 HW2.out (by have h7 := HS.out.2.2.2.2.1; rw [HE.out] at h7; exact h7) (by omega) (by omega)).mono ?_
        rintro e w3 ⟨rfl, hs3, hw3⟩
        have HS3 := Lib.hid hs3
        have HW3 := Lib.hid hw3
        clear hs3 hw3
        go_wp2_with fail
        refine bodyPost_ret (results_none rfl _ _ _) rfl ?_
        have hfin := BPuts.mk' (e := .returned (.tuple #[])) ⟨rfl, ((SF.refl g W).drewN _).trans HS2.out, HW2.out⟩ ⟨rfl, HS3.out, HW3.out⟩
        unfold lenV lenN
        rw [HE.out, ← HSN.out]
        exact hfin
      · have hno : s ≠ lenS n := fun e => by
          have h9 := HP.out.2 e
          omega
        go_roundw
        case rel => exact ⟨s - 1, by omega, by omega, by congr 1; omega, m + m1, rfl⟩
        case measure => simp [intOf] <;> omega
      · have hno : s ≠ lenS n := fun e => by
          have h9 := HP.out.2 e
          omega
        go_roundw
        case rel => exact ⟨s - 1, by omega, by omega, by congr 1; omega, m + m1, rfl⟩
        case measure => simp [intOf] <;> omega
    · go_wp2_with fail
      · have hs5 : s = 285 := by omega
        have hsn : s = lenS n := HP.out.1 ⟨by assumption, .inl hs5⟩
        have hE : lenE n = _ := HS.out.2.2.2.1.trans ((congrArg moreN hsn.symm).trans HM.out)
        have HE := Lib.hid hE
        have hX : (n : Int) - (l : Int) = ((lenX n : Nat) : Int) := by
          have h7 := HS.out.2.2.1
          rw [← hsn, HL.out] at h7
          have h8 : l ≤ n := by assumption
          omega
        have HX := Lib.hid hX
        have HSN := Lib.hid hsn
        have hsl := symN_le s
        have hsl2 := symN_le 285
        clear hE hX hsn
        refine (rsymbol_calls base g _ T N 285 (hW.out.drewN _) (by omega) (by omega)).mono ?_
        rintro e w2 ⟨rfl, hs2, hw2⟩
        have HS2 := Lib.hid hs2
        have HW2 := Lib.hid hw2
        clear hs2 hw2
        go_wp2_with fail
        rw [HX.out]
        refine (rnumber_calls base g w2 _ _ (lenX n) 1 HW2.out (by have h7 := HS.out.2.2.2.2.1; rw [HE.out] at h7; exact h7) (by omega) (by omega)).mono ?_
        rintro e w3 ⟨rfl, hs3, hw3⟩
        have HS3 := Lib.hid hs3
        have HW3 := Lib.hid hw3
        clear hs3 hw3
        go_wp2_with fail
        refine bodyPost_ret (results_none rfl _ _ _) rfl ?_
        have hfin := BPuts.mk' (e := .returned (.tuple #[])) ⟨rfl, ((SF.refl g W).drewN _).trans HS2.out, HW2.out⟩ ⟨rfl, HS3.out, HW3.out⟩
        unfold lenV lenN
        rw [HE.out, ← HSN.out]
        rw [hs5]
        exact hfin
      · have hor : ((s : Int) == 285) = true ∨ (n : Int) < (l : Int) + 2 := by assumption
        have hor2 : s = 285 ∨ n < l + 2 ^ 1 := by
          rcases hor with h | h
          · exact .inl (by simp at h; omega)
          · exact .inr (by omega)
        have hsn : s = lenS n := HP.out.1 ⟨by assumption, hor2⟩
        have hE : lenE n = _ := HS.out.2.2.2.1.trans ((congrArg moreN hsn.symm).trans HM.out)
        have HE := Lib.hid hE
        have hX : (n : Int) - (l : Int) = ((lenX n : Nat) : Int) := by
          have h7 := HS.out.2.2.1
          rw [← hsn, HL.out] at h7
          have h8 : l ≤ n := by assumption
          omega
        have HX := Lib.hid hX
        have HSN := Lib.hid hsn
        have hsl := symN_le s
        have hsl2 := symN_le 285
        clear hE hX hsn
        refine (rsymbol_calls base g _ T N s (hW.out.drewN _) (by omega) (by omega)).mono ?_
        rintro e w2 ⟨rfl, hs2, hw2⟩
        have HS2 := Lib.hid hs2
        have HW2 := Lib.hid hw2
        clear hs2 hw2
        go_wp2_with fail
        rw [HX.out]
        refine (rnumber_calls base g w2 _ _ (lenX n) 1 HW2.out (by have h7 := HS.out.2.2.2.2.1; rw [HE.out] at h7; exact h7) (by omega) (by omega)).mono ?_
        rintro e w3 ⟨rfl, hs3, hw3⟩
        have HS3 := Lib.hid hs3
        have HW3 := Lib.hid hw3
        clear hs3 hw3
        go_wp2_with fail
        refine bodyPost_ret (results_none rfl _ _ _) rfl ?_
        have hfin := BPuts.mk' (e := .returned (.tuple #[])) ⟨rfl, ((SF.refl g W).drewN _).trans HS2.out, HW2.out⟩ ⟨rfl, HS3.out, HW3.out⟩
        unfold lenV lenN
        rw [HE.out, ← HSN.out]
        exact hfin
      · have hno : s ≠ lenS n := fun e => by
          have h9 := HP.out.2 e
          omega
        go_roundw
        case rel => exact ⟨s - 1, by omega, by omega, by congr 1; omega, m + m1, rfl⟩
        case measure => simp [intOf] <;> omega
      · have hno : s ≠ lenS n := fun e => by
          have h9 := HP.out.2 e
          omega
        go_roundw
        case rel => exact ⟨s - 1, by omega, by omega, by congr 1; omega, m + m1, rfl⟩
        case measure => simp [intOf] <;> omega
    · go_wp2_with fail
      · have hs5 : s = 285 := by omega
        have hsn : s = lenS n := HP.out.1 ⟨by assumption, .inl hs5⟩
        have hE : lenE n = _ := HS.out.2.2.2.1.trans ((congrArg moreN hsn.symm).trans HM.out)
        have HE := Lib.hid hE
        have hX : (n : Int) - (l : Int) = ((lenX n : Nat) : Int) := by
          have h7 := HS.out.2.2.1
          rw [← hsn, HL.out] at h7
          have h8 : l ≤ n := by assumption
          omega
        have HX := Lib.hid hX
        have HSN := Lib.hid hsn
        have hsl := symN_le s
        have hsl2 := symN_le 285
        clear hE hX hsn
        refine (rsymbol_calls base g _ T N 285 (hW.out.drewN _) (by omega) (by omega)).mono ?_
        rintro e w2 ⟨rfl, hs2, hw2⟩
        have HS2 := Lib.hid hs2
        have HW2 := Lib.hid hw2
        clear hs2 hw2
        go_wp2_with fail
        rw [HX.out]
        refine (rnumber_calls base g w2 _ _ (lenX n) 2 HW2.out (by have h7 := HS.out.2.2.2.2.1; rw [HE.out] at h7; exact h7) (by omega) (by omega)).mono ?_
        rintro e w3 ⟨rfl, hs3, hw3⟩
        have HS3 := Lib.hid hs3
        have HW3 := Lib.hid hw3
        clear hs3 hw3
        go_wp2_with fail
        refine bodyPost_ret (results_none rfl _ _ _) rfl ?_
        have hfin := BPuts.mk' (e := .returned (.tuple #[])) ⟨rfl, ((SF.refl g W).drewN _).trans HS2.out, HW2.out⟩ ⟨rfl, HS3.out, HW3.out⟩
        unfold lenV lenN
        rw [HE.out, ← HSN.out]
        rw [hs5]
        exact hfin
      · have hor : ((s : Int) == 285) = true ∨ (n : Int) < (l : Int) + 4 := by assumption
        have hor2 : s = 285 ∨ n < l + 2 ^ 2 := by
          rcases hor with h | h
          · exact .inl (by simp at h; omega)
          · exact .inr (by omega)
        have hsn : s = lenS n := HP.out.1 ⟨by assumption, hor2⟩
        have hE : lenE n = _ := HS.out.2.2.2.1.trans ((congrArg moreN hsn.symm).trans HM.out)
        have HE := Lib.hid hE
        have hX : (n : Int) - (l : Int) = ((lenX n : Nat) : Int) := by
          have h7 := HS.out.2.2.1
          rw [← hsn, HL.out] at h7
          have h8 : l ≤ n := by assumption
          omega
        have HX := Lib.hid hX
        have HSN := Lib.hid hsn
        have hsl := symN_le s
        have hsl2 := symN_le 285
        clear hE hX hsn
        refine (rsymbol_calls base g _ T N s (hW.out.drewN _) (by omega) (by omega)).mono ?_
        rintro e w2 ⟨rfl, hs2, hw2⟩
        have HS2 := Lib.hid hs2
        have HW2 := Lib.hid hw2
        clear hs2 hw2
        go_wp2_with fail
        rw [HX.out]
        refine (rnumber_calls base g w2 _ _ (lenX n) 2 HW2.out (by have h7 := HS.out.2.2.2.2.1; rw [HE.out] at h7; exact h7) (by omega) (by omega)).mono ?_
        rintro e w3 ⟨rfl, hs3, hw3⟩
        have HS3 := Lib.hid hs3
        have HW3 := Lib.hid hw3
        clear hs3 hw3
        go_wp2_with fail
        refine bodyPost_ret (results_none rfl _ _ _) rfl ?_
        have hfin := BPuts.mk' (e := .returned (.tuple #[])) ⟨rfl, ((SF.refl g W).drewN _).trans HS2.out, HW2.out⟩ ⟨rfl, HS3.out, HW3.out⟩
        unfold lenV lenN
        rw [HE.out, ← HSN.out]
        exact hfin
      · have hno : s ≠ lenS n := fun e => by
          have h9 := HP.out.2 e
          omega
        go_roundw
        case rel => exact ⟨s - 1, by omega, by omega, by congr 1; omega, m + m1, rfl⟩
        case measure => simp [intOf] <;> omega
      · have hno : s ≠ lenS n := fun e => by
          have h9 := HP.out.2 e
          omega
        go_roundw
        case rel => exact ⟨s - 1, by omega, by omega, by congr 1; omega, m + m1, rfl⟩
        case measure => simp [intOf] <;> omega
    · go_wp2_with fail
      · have hs5 : s = 285 := by omega
        have hsn : s = lenS n := HP.out.1 ⟨by assumption, .inl hs5⟩
        have hE : lenE n = _ := HS.out.2.2.2.1.trans ((congrArg moreN hsn.symm).trans HM.out)
        have HE := Lib.hid hE
        have hX : (n : Int) - (l : Int) = ((lenX n : Nat) : Int) := by
          have h7 := HS.out.2.2.1
          rw [← hsn, HL.out] at h7
          have h8 : l ≤ n := by assumption
          omega
        have HX := Lib.hid hX
        have HSN := Lib.hid hsn
        have hsl := symN_le s
        have hsl2 := symN_le 285
        clear hE hX hsn
        refine (rsymbol_calls base g _ T N 285 (hW.out.drewN _) (by omega) (by omega)).mono ?_
        rintro e w2 ⟨rfl, hs2, hw2⟩
        have HS2 := Lib.hid hs2
        have HW2 := Lib.hid hw2
        clear hs2 hw2
        go_wp2_with fail
        rw [HX.out]
        refine (rnumber_calls base g w2 _ _ (lenX n) 3 HW2.out (by have h7 := HS.out.2.2.2.2.1; rw [HE.out] at h7; exact h7) (by omega) (by omega)).mono ?_
        rintro e w3 ⟨rfl, hs3, hw3⟩
        have HS3 := Lib.hid hs3
        have HW3 := Lib.hid hw3
        clear hs3 hw3
        go_wp2_with fail
        refine bodyPost_ret (results_none rfl _ _ _) rfl ?_
        have hfin := BPuts.mk' (e := .returned (.tuple #[])) ⟨rfl, ((SF.refl g W).drewN _).trans HS2.out, HW2.out⟩ ⟨rfl, HS3.out, HW3.out⟩
        unfold lenV lenN
        rw [HE.out, ← HSN.out]
        rw [hs5]
        exact hfin
      · have hor : ((s : Int) == 285) = true ∨ (n : Int) < (l : Int) + 8 := by assumption
        have hor2 : s = 285 ∨ n < l + 2 ^ 3 := by
          rcases hor with h | h
          · exact .inl (by simp at h; omega)
          · exact .inr (by omega)
        have hsn : s = lenS n := HP.out.1 ⟨by assumption, hor2⟩
        have hE : lenE n = _ := HS.out.2.2.2.1.trans ((congrArg moreN hsn.symm).trans HM.out)
        have HE := Lib.hid hE
        have hX : (n : Int) - (l : Int) = ((lenX n : Nat) : Int) := by
          have h7 := HS.out.2.2.1
          rw [← hsn, HL.out] at h7
          have h8 : l ≤ n := by assumption
          omega
        have HX := Lib.hid hX
        have HSN := Lib.hid hsn
        have hsl := symN_le s
        have hsl2 := symN_le 285
        clear hE hX hsn
        refine (rsymbol_calls base g _ T N s (hW.out.drewN _) (by omega) (by omega)).mono ?_
        rintro e w2 ⟨rfl, hs2, hw2⟩
        have HS2 := Lib.hid hs2
        have HW2 := Lib.hid hw2
        clear hs2 hw2
        go_wp2_with fail
        rw [HX.out]
        refine (rnumber_calls base g w2 _ _ (lenX n) 3 HW2.out (by have h7 := HS.out.2.2.2.2.1; rw [HE.out] at h7; exact h7) (by omega) (by omega)).mono ?_
        rintro e w3 ⟨rfl, hs3, hw3⟩
        have HS3 := Lib.hid hs3
        have HW3 := Lib.hid hw3
        clear hs3 hw3
        go_wp2_with fail
        refine bodyPost_ret (results_none rfl _ _ _) rfl ?_
        have hfin := BPuts.mk' (e := .returned (.tuple #[])) ⟨rfl, ((SF.refl g W).drewN _).trans HS2.out, HW2.out⟩ ⟨rfl, HS3.out, HW3.out⟩
        unfold lenV lenN
        rw [HE.out, ← HSN.out]
        exact hfin
      · have hno : s ≠ lenS n := fun e => by
          have h9 := HP.out.2 e
          omega
        go_roundw
        case rel => exact ⟨s - 1, by omega, by omega, by congr 1; omega, m + m1, rfl⟩
        case measure => simp [intOf] <;> omega
      · have hno : s ≠ lenS n := fun e => by
          have h9 := HP.out.2 e
          omega
        go_roundw
        case rel => exact ⟨s - 1, by omega, by omega, by congr 1; omega, m + m1, rfl⟩
        case measure => simp [intOf] <;> omega
    · go_wp2_with fail
      · have hs5 : s = 285 := by omega
        have hsn : s = lenS n := HP.out.1 ⟨by assumption, .inl hs5⟩
        have hE : lenE n = _ := HS.out.2.2.2.1.trans ((congrArg moreN hsn.symm).trans HM.out)
        have HE := Lib.hid hE
        have hX : (n : Int) - (l : Int) = ((lenX n : Nat) : Int) := by
          have h7 := HS.out.2.2.1
          rw [← hsn, HL.out] at h7
          have h8 : l ≤ n := by assumption
          omega
        have HX := Lib.hid hX
        have HSN := Lib.hid hsn
        have hsl := symN_le s
        have hsl2 := symN_le 285
        clear hE hX hsn
        refine (rsymbol_calls base g _ T N 285 (hW.out.drewN _) (by omega) (by omega)).mono ?_
        rintro e w2 ⟨rfl, hs2, hw2⟩
        have HS2 := Lib.hid hs2
        have HW2 := Lib.hid hw2
        clear hs2 hw2
        go_wp2_with fail
        rw [HX.out]
        refine (rnumber_calls base g w2 _ _ (lenX n) 4 HW2.out (by have h7 := HS.out.2.2.2.2.1; rw [HE.out] at h7; exact h7) (by omega) (by omega)).mono ?_
        rintro e w3 ⟨rfl, hs3, hw3⟩
        have HS3 := Lib.hid hs3
        have HW3 := Lib.hid hw3
        clear hs3 hw3
        go_wp2_with fail
        refine bodyPost_ret (results_none rfl _ _ _) rfl ?_
        have hfin := BPuts.mk' (e := .returned (.tuple #[])) ⟨rfl, ((SF.refl g W).drewN _).trans HS2.out, HW2.out⟩ ⟨rfl, HS3.out, HW3.out⟩
        unfold lenV lenN
        rw [HE.out, ← HSN.out]
        rw [hs5]
        exact hfin
      · have hor : ((s : Int) == 285) = true ∨ (n : Int) < (l : Int) + 16 := by assumption
        have hor2 : s = 285 ∨ n < l + 2 ^ 4 := by
          rcases hor with h | h
          · exact .inl (by simp at h; omega)
          · exact .inr (by omega)
        have hsn : s = lenS n := HP.out.1 ⟨by assumption, hor2⟩
        have hE : lenE n = _ := HS.out.2.2.2.1.trans ((congrArg moreN hsn.symm).trans HM.out)
        have HE := Lib.hid hE
        have hX : (n : Int) - (l : Int) = ((lenX n : Nat) : Int) := by
          have h7 := HS.out.2.2.1
          rw [← hsn, HL.out] at h7
          have h8 : l ≤ n := by assumption
          omega
        have HX := Lib.hid hX
        have HSN := Lib.hid hsn
        have hsl := symN_le s
        have hsl2 := symN_le 285
        clear hE hX hsn
        refine (rsymbol_calls base g _ T N s (hW.out.drewN _) (by omega) (by omega)).mono ?_
        rintro e w2 ⟨rfl, hs2, hw2⟩
        have HS2 := Lib.hid hs2
        have HW2 := Lib.hid hw2
        clear hs2 hw2
        go_wp2_with fail
        rw [HX.out]
        refine (rnumber_calls base g w2 _ _ (lenX n) 4 HW2.out (by have h7 := HS.out.2.2.2.2.1; rw [HE.out] at h7; exact h7) (by omega) (by omega)).mono ?_
        rintro e w3 ⟨rfl, hs3, hw3⟩
        have HS3 := Lib.hid hs3
        have HW3 := Lib.hid hw3
        clear hs3 hw3
        go_wp2_with fail
        refine bodyPost_ret (results_none rfl _ _ _) rfl ?_
        have hfin := BPuts.mk' (e := .returned (.tuple #[])) ⟨rfl, ((SF.refl g W).drewN _).trans HS2.out, HW2.out⟩ ⟨rfl, HS3.out, HW3.out⟩
        unfold lenV lenN
        rw [HE.out, ← HSN.out]
        exact hfin
      · have hno : s ≠ lenS n := fun e => by
          have h9 := HP.out.2 e
          omega
        go_roundw
        case rel => exact ⟨s - 1, by omega, by omega, by congr 1; omega, m + m1, rfl⟩
        case measure => simp [intOf] <;> omega
      · have hno : s ≠ lenS n := fun e => by
          have h9 := HP.out.2 e
          omega
        go_roundw
        case rel => exact ⟨s - 1, by omega, by omega, by congr 1; omega, m + m1, rfl⟩
        case measure => simp [intOf] <;> omega
    · go_wp2_with fail
      · have hs5 : s = 285 := by omega
        have hsn : s = lenS n := HP.out.1 ⟨by assumption, .inl hs5⟩
        have hE : lenE n = _ := HS.out.2.2.2.1.trans ((congrArg moreN hsn.symm).trans HM.out)
        have HE := Lib.hid hE
        have hX : (n : Int) - (l : Int) = ((lenX n : Nat) : Int) := by
          have h7 := HS.out.2.2.1
          rw [← hsn, HL.out] at h7
          have h8 : l ≤ n := by assumption
          omega
        have HX := Lib.hid hX
        have HSN := Lib.hid hsn
        have hsl := symN_le s
        have hsl2 := symN_le 285
        clear hE hX hsn
        refine (rsymbol_calls base g _ T N 285 (hW.out.drewN _) (by omega) (by omega)).mono ?_
        rintro e w2 ⟨rfl, hs2, hw2⟩
        have HS2 := Lib.hid hs2
        have HW2 := Lib.hid hw2
        clear hs2 hw2
        go_wp2_with fail
        rw [HX.out]
        refine (rnumber_calls base g w2 _ _ (lenX n) 5 HW2.out (by have h7 := HS.out.2.2.2.2.1; rw [HE.out] at h7; exact h7) (by omega) (by omega)).mono ?_
        rintro e w3 ⟨rfl, hs3, hw3⟩
        have HS3 := Lib.hid hs3
        have HW3 := Lib.hid hw3
        clear hs3 hw3
        go_wp2_with fail
        refine bodyPost_ret (results_none rfl _ _ _) rfl ?_
        have hfin := BPuts.mk' (e := .returned (.tuple #[])) ⟨rfl, ((SF.refl g W).drewN _).trans HS2.out, HW2.out⟩ ⟨rfl, HS3.out, HW3.out⟩
        unfold lenV lenN
        rw [HE.out, ← HSN.out]
        rw [hs5]
        exact hfin
      · have hor : ((s : Int) == 285) = true ∨ (n : Int) < (l : Int) + 32 := by assumption
        have hor2 : s = 285 ∨ n < l + 2 ^ 5 := by
          rcases hor with h | h
          · exact .inl (by simp at h; omega)
          · exact .inr (by omega)
        have hsn : s = lenS n := HP.out.1 ⟨by assumption, hor2⟩
        have hE : lenE n = _ := HS.out.2.2.2.1.trans ((congrArg moreN hsn.symm).trans HM.out)
        have HE := Lib.hid hE
        have hX : (n : Int) - (l : Int) = ((lenX n : Nat) : Int) := by
          have h7 := HS.out.2.2.1
          rw [← hsn, HL.out] at h7
          have h8 : l ≤ n := by assumption
          omega
        have HX := Lib.hid hX
        have HSN := Lib.hid hsn
        have hsl := symN_le s
        have hsl2 := symN_le 285
        clear hE hX hsn
        refine (rsymbol_calls base g _ T N s (hW.out.drewN _) (by omega) (by omega)).mono ?_
        rintro e w2 ⟨rfl, hs2, hw2⟩
        have HS2 := Lib.hid hs2
        have HW2 := Lib.hid hw2
        clear hs2 hw2
        go_wp2_with fail
        rw [HX.out]
        refine (rnumber_calls base g w2 _ _ (lenX n) 5 HW2.out (by have h7 := HS.out.2.2.2.2.1; rw [HE.out] at h7; exact h7) (by omega) (by omega)).mono ?_
        rintro e w3 ⟨rfl, hs3, hw3⟩
        have HS3 := Lib.hid hs3
        have HW3 := Lib.hid hw3
        clear hs3 hw3
        go_wp2_with fail
        refine bodyPost_ret (results_none rfl _ _ _) rfl ?_
        have hfin := BPuts.mk' (e := .returned (.tuple #[])) ⟨rfl, ((SF.refl g W).drewN _).trans HS2.out, HW2.out⟩ ⟨rfl, HS3.out, HW3.out⟩
        unfold lenV lenN
        rw [HE.out, ← HSN.out]
        exact hfin
      · have hno : s ≠ lenS n := fun e => by
          have h9 := HP.out.2 e
          omega
        go_roundw
        case rel => exact ⟨s - 1, by omega, by omega, by congr 1; omega, m + m1, rfl⟩
        case measure => simp [intOf] <;> omega
      · have hno : s ≠ lenS n := fun e => by
          have h9 := HP.out.2 e
          omega
        go_roundw
        case rel => exact ⟨s - 1, by omega, by omega, by congr 1; omega, m + m1, rfl⟩
        case measure => simp [intOf] <;> omega


/-! ### codicilref03_Distance: function 43 -/
def codicilref03_Distance.f (a0 : Int) : Option (Int × Int) := if a0 < 4 then (some (wrap64 (a0 + 1), 0)) else (if 0 ≤ (wrap64 ((wrap64 (Int.tdiv a0 2)) - 1)) then (some (wrap64 (1 + (shl .i64 (wrap64 (2 + (Int.tmod a0 2))) (wrap64 ((wrap64 (Int.tdiv a0 2)) - 1)))), wrap64 ((wrap64 (Int.tdiv a0 2)) - 1))) else (none))
set_option maxHeartbeats 8000000 in
set_option maxRecDepth 100000 in
theorem codicilref03_Distance.calls (a0 : Int) (r1 : Int) (r2 : Int) (w : World) (h : codicilref03_Distance.f a0 = some (r1, r2)) :
    Calls Try.prog 43 #[.int .i64 a0] w fun e w' => e = .returned (.tuple #[.int .i64 r1, .int .i64 r2]) ∧ Drawn0 w w' := by
  have H : (if a0 < 4 then (some (wrap64 (a0 + 1), 0)) else (if 0 ≤ (wrap64 ((wrap64 (Int.tdiv a0 2)) - 1)) then (some (wrap64 (1 + (shl .i64 (wrap64 (2 + (Int.tmod a0 2))) (wrap64 ((wrap64 (Int.tdiv a0 2)) - 1)))), wrap64 ((wrap64 (Int.tdiv a0 2)) - 1))) else (none))) = some (r1, r2) := h
  clear h
  by_cases c2 : a0 < 4
  · rw [if_pos c2] at H
    have c2b0 : decide (a0 < 4) = true := decide_eq_true c2
    clear c2
    simp only [Option.some.injEq, Prod.mk.injEq] at H
    obtain ⟨rfl, rfl⟩ := H
    go_enter Try.func43, Try.ntmps43
    go_wp2
    go_ret2
    exact ⟨by first | rfl | (simp; done) | (simp [*]; done), by repeat (first | exact Drawn0.refl _ | apply Drawn0.step)⟩
  · rw [if_neg c2] at H
    have c2b0 : decide (a0 < 4) = false := decide_eq_false c2
    clear c2
    obtain ⟨ji3, hji3⟩ : ∃ j_ : Int, (wrap64 ((wrap64 (Int.tdiv a0 2)) - 1)) = j_ := ⟨_, rfl⟩
    replace H : (if 0 ≤ (ji3) then (some (wrap64 (1 + (shl .i64 (wrap64 (2 + (Int.tmod a0 2))) (ji3))), ji3)) else (none)) = some (r1, r2) := by first | (rw [hji3] at H; exact H) | (simp only [hji3] at H ⊢; exact H)
    have hji3w : (IntKind.i64.wrap ((wrap64 (Int.tdiv a0 2)) - 1)) = ji3 := (i64_w _).trans hji3
    by_cases c4 : 0 ≤ (ji3)
    · rw [if_pos c4] at H
      have c4b0 := eq_true c4
      have c4b1 : decide (0 ≤ (ji3)) = true := decide_eq_true c4
      clear c4
      obtain ⟨ji5, hji5⟩ : ∃ j_ : Int, (shl .i64 (wrap64 (2 + (Int.tmod a0 2))) (ji3)) = j_ := ⟨_, rfl⟩
      replace H : (some (wrap64 (1 + (ji5)), ji3)) = some (r1, r2) := by first | (rw [hji5] at H; exact H) | (simp only [hji5] at H ⊢; exact H)
      have hji5_ : (IntKind.i64.wrap ((wrap64 (2 + (Int.tmod a0 2))) * 2 ^ min (ji3).toNat 64)) = ji5 := hji5
      have hji5z : (ji3) ≤ 64 → (IntKind.i64.wrap ((wrap64 (2 + (Int.tmod a0 2))) * 2 ^ (ji3).toNat)) = ji5 := shl_small hji5
      have hji5y : (wrap64 ((wrap64 (2 + (Int.tmod a0 2))) * 2 ^ min (ji3).toNat 64)) = ji5 := (i64_w _).symm.trans hji5_
      have hji5x : (ji3) ≤ 64 → (wrap64 ((wrap64 (2 + (Int.tmod a0 2))) * 2 ^ (ji3).toNat)) = ji5 := fun h_ => (i64_w _).symm.trans (hji5z h_)
      simp only [Option.some.injEq, Prod.mk.injEq] at H
      obtain ⟨rfl, rfl⟩ := H
      go_enter Try.func43, Try.ntmps43
      go_wp2
      go_ret2
      exact ⟨by first | rfl | (simp; done) | (simp only [← hji3, ← hji5] <;> (first | rfl | simp)) | (simp [*]; done), by repeat (first | exact Drawn0.refl _ | apply Drawn0.step)⟩
    · rw [if_neg c4] at H
      exact absurd H (by simp)

end Go.Proofs.Ytkdklcamgcmifaa.PDW
