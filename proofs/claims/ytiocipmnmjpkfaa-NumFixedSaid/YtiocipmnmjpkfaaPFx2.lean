-- Written by fprint.py, a program of this session, over the translation. Not trusted: Lean checks it.
import Derived.Test.YtiocipmnmjpkfaaPFx0
import Derived.Test.YtiocipmnmjpkfaaPFx1
namespace Go.Proofs.Ytiocipmnmjpkfaa.PF
open Go.RowKit Go.Proofs.YtiocipmnmjpkfaaW.PrintWords Go.Proofs.YtiocipmnmjpkfaaW.PrintLast Go.Proofs.YtiocipmnmjpkfaaW.PrintMore
attribute [local go_sem] max2_int min2_int max_two min_two max_three min_three max_four min_four   -- for this text's walks alone
set_option linter.unusedVariables false
set_option linter.unusedSimpArgs false

/-! ### num_Big: function 31 -/
mutual
def num_Big.j0 : Nat → List Int → Int → Int → Bool → Option (Int × Int)
  | 0, _, _, _, _ => none
  | k + 1, x0, x1, x2, x19 => if x19 = true then (some (0, 1)) else (if x1 > (wrap64 ((x0.length : Int) - x2)) then (some (0, 5)) else (num_Big.l0 k x0 x1 0 x2 0))
def num_Big.l0 : Nat → List Int → Int → Int → Int → Int → Option (Int × Int)
  | 0, _, _, _, _, _ => none
  | k + 1, x0, x1, x8, x26, x27 => if x27 < x26 then (if 0 ≤ (wrap64 (x1 + x27)) then (if (wrap64 (x1 + x27)) < (x0.length : Int) then (num_Big.l0 k x0 x1 (Go.bits .or .u64 (IntKind.u64.wrap (x8 * 256)) (IntKind.u64.wrap (rd x0 (wrap64 (x1 + x27))))) x26 (wrap64 (x27 + 1))) else (none)) else (none)) else (some (x8, 0))
end
def num_Big.f (k : Nat) (l0 : List Int) (a1 : Int) (a2 : Int) : Option (Int × Int) := if a2 < 1 then (num_Big.j0 k l0 a1 a2 true) else (if a2 > 8 then (num_Big.j0 k l0 a1 a2 true) else (num_Big.j0 k l0 a1 a2 (decide (a1 < 0))))
theorem num_Big.mono_l : ∀ k, (∀ y0 y1 y2 y3, LeO (num_Big.j0 k y0 y1 y2 y3) (num_Big.j0 (k + 1) y0 y1 y2 y3)) ∧ (∀ y0 y1 y2 y3 y4, LeO (num_Big.l0 k y0 y1 y2 y3 y4) (num_Big.l0 (k + 1) y0 y1 y2 y3 y4))
  | 0 => ⟨fun _ _ _ _ r h => by simp [num_Big.j0] at h, fun _ _ _ _ _ r h => by simp [num_Big.l0] at h⟩
  | k + 1 => by
    obtain ⟨ih0, ih1⟩ := num_Big.mono_l k
    refine ⟨?_, ?_⟩
    · intro y0 y1 y2 y3
      unfold num_Big.j0
      repeat' first
      | (with_reducible exact ih0 _ _ _ _)
      | (with_reducible exact ih1 _ _ _ _ _)
      | (with_reducible exact LeO.refl _)
      | (with_reducible exact LeO.none _)
      | (with_reducible refine LeO.ite ?_ ?_)
      | (with_reducible refine LeO.bind ?_ (fun _ => ?_))
      | exact ih0 _ _ _ _
      | exact ih1 _ _ _ _ _
      | exact LeO.none _
      | refine LeO.ite ?_ ?_
      | refine LeO.bind ?_ (fun _ => ?_)
    · intro y0 y1 y2 y3 y4
      unfold num_Big.l0
      repeat' first
      | (with_reducible exact ih0 _ _ _ _)
      | (with_reducible exact ih1 _ _ _ _ _)
      | (with_reducible exact LeO.refl _)
      | (with_reducible exact LeO.none _)
      | (with_reducible refine LeO.ite ?_ ?_)
      | (with_reducible refine LeO.bind ?_ (fun _ => ?_))
      | exact ih0 _ _ _ _
      | exact ih1 _ _ _ _ _
      | exact LeO.none _
      | refine LeO.ite ?_ ?_
      | refine LeO.bind ?_ (fun _ => ?_)
theorem num_Big.mono : ∀ a0 a1 a2 k, LeO (num_Big.f k a0 a1 a2) (num_Big.f (k + 1) a0 a1 a2) := by
  intro a0 a1 a2 k
  obtain ⟨ih0, ih1⟩ := num_Big.mono_l k
  unfold num_Big.f
  repeat' first
      | (with_reducible exact ih0 _ _ _ _)
      | (with_reducible exact ih1 _ _ _ _ _)
      | (with_reducible exact LeO.refl _)
      | (with_reducible exact LeO.none _)
      | (with_reducible refine LeO.ite ?_ ?_)
      | (with_reducible refine LeO.bind ?_ (fun _ => ?_))
      | exact ih0 _ _ _ _
      | exact ih1 _ _ _ _ _
      | exact LeO.none _
      | refine LeO.ite ?_ ?_
      | refine LeO.bind ?_ (fun _ => ?_)
set_option maxHeartbeats 8000000 in
set_option maxRecDepth 100000 in
theorem num_Big.calls (k : Nat) (A0 : Option Addr) (c0 : Nat) (l0 : List Int) (a1 : Int) (a2 : Int) (r1 : Int) (r2 : Int) (w : World) (hr0 : Kd.C (Kd.int .u8) w A0 l0.length l0) (hc0 : l0.length ≤ c0) (h : num_Big.f k l0 a1 a2 = some (r1, r2)) :
    Calls Try.prog 31 #[.slice A0 l0.length c0, .int .i64 a1, .int .i64 a2] w fun e w' => e = .returned (.tuple #[.int .u64 r1, .int .i64 r2]) ∧ Drawn0 w w' := by
  have HR0 := Aside0.mk hr0
  have HC0 := Aside0.mk hc0
  clear hr0 hc0
  have H : (if a2 < 1 then (num_Big.j0 k l0 a1 a2 true) else (if a2 > 8 then (num_Big.j0 k l0 a1 a2 true) else (num_Big.j0 k l0 a1 a2 (decide (a1 < 0))))) = some (r1, r2) := h
  clear h
  have HC4 := Aside0.mk H
  clear H
  go_enter Try.func31, Try.ntmps31
  go_upto_region 1 with (fail)
  go_cut [19] (fun v19 wc => ∃ (kq : Nat) (x19_3 : Bool), v19 = .bool x19_3 ∧ Aside0 (num_Big.j0 kq l0 a1 a2 x19_3 = some (r1, r2)) ∧ Aside0 (kq ≤ k) ∧ Drawn0 w wc)
  case first =>
    have H := HC4.out
    clear HC4
    by_cases c5 : a2 < 1
    · rw [if_pos c5] at H
      have c5b0 : decide (a2 < 1) = true := decide_eq_true c5
      clear c5
      (first | rw [c5b0] | (simp only [i64_w, i32_w]; rw [c5b0]) | skip)
      have H' := Aside0.mk H
      clear H
      go_wp2
      go_meet
      case rel => exact ⟨_, (true), (by first | rfl | (simp; done) | (simp [*]; done)), H', ⟨by first | omega | exact Nat.le_refl _⟩, by repeat (first | exact Drawn0.refl _ | apply Drawn0.step)⟩
    · rw [if_neg c5] at H
      have c5b0 : decide (a2 < 1) = false := decide_eq_false c5
      clear c5
      (first | rw [c5b0] | (simp only [i64_w, i32_w]; rw [c5b0]) | skip)
      by_cases c6 : a2 > 8
      · rw [if_pos c6] at H
        have c6b0 : decide (8 < a2) = true := decide_eq_true c6
        clear c6
        have H' := Aside0.mk H
        clear H
        go_wp2
        go_meet
        case rel => exact ⟨_, (true), (by first | rfl | (simp; done) | (simp [*]; done)), H', ⟨by first | omega | exact Nat.le_refl _⟩, by repeat (first | exact Drawn0.refl _ | apply Drawn0.step)⟩
      · rw [if_neg c6] at H
        have c6b0 : decide (8 < a2) = false := decide_eq_false c6
        clear c6
        have H' := Aside0.mk H
        clear H
        go_wp2
        go_meet
        case rel => exact ⟨_, (decide (a1 < 0)), (by first | rfl | (simp; done) | (simp [*]; done)), H', ⟨by first | omega | exact Nat.le_refl _⟩, by repeat (first | exact Drawn0.refl _ | apply Drawn0.step)⟩
  case rest =>
    clear HC4
    try clear p2
    try clear c3
    try clear c5
    try clear c5b0
    try clear c6
    try clear c6b0
    obtain ⟨kq, x19_3, rfl, HA, HJ3, ⟨mc3, rfl⟩⟩ := hcut
    cases kq with
    | zero => exact absurd HA.out (by simp [num_Big.j0])
    | succ kj3 =>
      have H := HA.out
      clear HA
      simp only [num_Big.j0] at H
      by_cases c7 : x19_3 = true
      · subst c7
        have H1 : (some (0, 1)) = some (r1, r2) := by rw [if_pos rfl] at H; exact H
        clear H
        have H := H1
        clear H1
        simp only [Option.some.injEq, Prod.mk.injEq] at H
        obtain ⟨rfl, rfl⟩ := H
        go_wp2
        go_ret2
        exact ⟨by first | rfl | (simp; done) | (simp [*]; done), by repeat (first | exact Drawn0.refl _ | apply Drawn0.step)⟩
      · replace c7 := Bool.eq_false_iff.mpr c7
        subst c7
        have H1 : (if a1 > (wrap64 ((l0.length : Int) - a2)) then (some (0, 5)) else (num_Big.l0 kj3 l0 a1 0 a2 0)) = some (r1, r2) := by rw [if_neg (show ¬ (false = true) by decide)] at H; exact H
        clear H
        have H := H1
        clear H1
        by_cases c8 : a1 > (wrap64 ((l0.length : Int) - a2))
        · rw [if_pos c8] at H
          have c8b0 : decide ((wrap64 ((l0.length : Int) - a2)) < a1) = true := decide_eq_true c8
          clear c8
          simp only [Option.some.injEq, Prod.mk.injEq] at H
          obtain ⟨rfl, rfl⟩ := H
          go_wp2
          go_ret2
          exact ⟨by first | rfl | (simp; done) | (simp [*]; done), by repeat (first | exact Drawn0.refl _ | apply Drawn0.step)⟩
        · rw [if_neg c8] at H
          have c8b0 : decide ((wrap64 ((l0.length : Int) - a2)) < a1) = false := decide_eq_false c8
          clear c8
          have H' := Aside0.mk H
          clear H
          go_wp2
          go_loopg [8, 27] kj3 (fun kq v8 v27 w' => ∃ (x8_2 : Int) (x27_2 : Int), v8 = .int .u64 x8_2 ∧ v27 = .int .i64 x27_2 ∧ Aside0 (num_Big.l0 kq l0 a1 x8_2 a2 x27_2 = some (r1, r2)) ∧ Aside0 (kq ≤ kj3) ∧ Drawn0 w w')
          case atStart => exact ⟨(0), (0), (by first | rfl | (simp; done) | (simp [*]; done)), (by first | rfl | (simp; done) | (simp [*]; done)), H', ⟨Nat.le_refl _⟩, by repeat (first | exact Drawn0.refl _ | apply Drawn0.step)⟩
          case round =>
            clear H'
            try clear p2
            try clear c3
            try clear c5
            try clear c5b0
            try clear c6
            try clear c6b0
            try clear p6
            try clear c7
            try clear c8
            try clear c8b0
            try clear p2
            obtain ⟨x8_2, x27_2, rfl, rfl, HA, HK2, ⟨m2, rfl⟩⟩ := hrel
            cases gk with
            | zero => exact absurd HA.out (by simp [num_Big.l0])
            | succ k2 =>
              have H := HA.out
              clear HA
              simp only [num_Big.l0] at H
              by_cases c9 : x27_2 < a2
              · rw [if_pos c9] at H
                have c9b0 : decide (x27_2 < a2) = true := decide_eq_true c9
                clear c9
                obtain ⟨ji10, hji10⟩ : ∃ j_ : Int, (wrap64 (a1 + x27_2)) = j_ := ⟨_, rfl⟩
                replace H : (if 0 ≤ (ji10) then (if (ji10) < (l0.length : Int) then (num_Big.l0 k2 l0 a1 (Go.bits .or .u64 (IntKind.u64.wrap (x8_2 * 256)) (IntKind.u64.wrap (rd l0 (ji10)))) a2 (wrap64 (x27_2 + 1))) else (none)) else (none)) = some (r1, r2) := by first | (rw [hji10] at H; exact H) | (simp only [hji10] at H ⊢; exact H)
                have hji10w : (IntKind.i64.wrap (a1 + x27_2)) = ji10 := (i64_w _).trans hji10
                by_cases c11 : 0 ≤ (ji10)
                · rw [if_pos c11] at H
                  have c11b0 : decide (0 ≤ (ji10)) = true := decide_eq_true c11
                  clear c11
                  by_cases c12 : (ji10) < (l0.length : Int)
                  · rw [if_pos c12] at H
                    have c12b0 : decide ((ji10) < (l0.length : Int)) = true := decide_eq_true c12
                    clear c12
                    have H' := Aside0.mk H
                    clear H
                    have p134 : 0 ≤ ((ji10) : Int) := of_decide_eq_true (by first | (with_reducible assumption) | assumption)
                    have q134 : (ji10) < (l0.length : Int) := of_decide_eq_true (by first | (with_reducible assumption) | assumption)
                    obtain ⟨ad134, e134, hx134_0⟩ := Kd.at_int HR0.out (ji10) p134 q134
                    cases e134
                    replace p134 := eq_true p134
                    replace q134 := eq_true q134
                    go_wp2
                    go_roundg k2
                    case measure => have := HJ3.out; have := HK2.out; omega
                    case rel => exact ⟨(Go.bits .or .u64 (IntKind.u64.wrap (x8_2 * 256)) (IntKind.u64.wrap (rd l0 (ji10)))), (wrap64 (x27_2 + 1)), (by first | rfl | (simp; done) | (simp only [← hji10] <;> (first | rfl | simp)) | (simp [*]; done)), (by first | rfl | (simp; done) | (simp [*]; done)), H', ⟨by have := HJ3.out; have := HK2.out; omega⟩, by repeat (first | exact Drawn0.refl _ | apply Drawn0.step)⟩
                  · rw [if_neg c12] at H
                    exact absurd H (by simp)
                · rw [if_neg c11] at H
                  exact absurd H (by simp)
              · rw [if_neg c9] at H
                have c9b0 : decide (x27_2 < a2) = false := decide_eq_false c9
                clear c9
                simp only [Option.some.injEq, Prod.mk.injEq] at H
                obtain ⟨rfl, rfl⟩ := H
                go_wp2
                go_ret2
                exact ⟨by first | rfl | (simp; done) | (simp [*]; done), by repeat (first | exact Drawn0.refl _ | apply Drawn0.step)⟩

/-! ### codicillaw02_NumFixed: function 8 -/
def codicillaw02_NumFixed.Pure : Prop := codicillaw02_awake.f = some true
theorem lit_reads (W : World) (xs : List Int) (cs : Array Value) (h : cs = (nums .u8 xs).toArray) (hm : xs.length ≤ 1000) : ReadsInt (W.alloc (.cells cs 5)) .u8 (some ⟨W.heap.size, 0, none⟩) xs.length xs := by
  subst h
  exact own_reads' (own_lit W 0 5 .u8 xs (Nat.zero_le _) (by omega))
theorem setrep (k : Nat) (hk : k < 20) : (List.replicate k (128 : Int) ++ List.replicate (21 - k) 0).set k 128 = List.replicate (k + 1) 128 ++ List.replicate (21 - (k + 1)) 0 := by
  rw [List.set_append_right _ _ (by simp), List.length_replicate, Nat.sub_self, show 21 - k = (21 - (k + 1)) + 1 from by omega, List.replicate_succ, List.set_cons_zero, List.replicate_succ', List.append_assoc]
  rfl
def spanMax : List Int := [128, 254, 254, 254, 254, 254, 254, 254, 254, 127]
def spanNext : List Int := [255, 128, 254, 254, 254, 254, 254, 254, 254, 254, 128]
def longL : List Int := [128, 128, 128, 128, 128, 128, 128, 128, 128, 128, 128, 128, 128, 128, 128, 128, 128, 128, 128, 128, 0]
theorem fx1 : sizeF longL 0 = (0, 21, 0) := by decide +kernel
theorem fx2 : sizeF [255] 0 = (0, 0, 5) := by decide +kernel
theorem fx3 : sizeF [128, 128, 128, 128, 128, 128, 128, 128, 128, 2] 0 = (0, 0, 10) := by decide +kernel
theorem fx4 : sizeF [128, 128, 128, 128, 128, 128, 128, 128, 128, 1] 0 = (9223372036854775808, 10, 0) := by decide +kernel
theorem fx5 : num_Big.f 20 [1, 2, 3] 1 2 = some (515, 0) := by decide +kernel
theorem fx6 : num_Big.f 20 [1] 1 1 = some (0, 5) := by decide +kernel
theorem fx7 : num_PutBig.f [] 256 1 = some ([], 10) := by decide +kernel
theorem fx8 : num_PutSpan.f [] 18446744073709551615 = some spanMax := by decide +kernel
theorem fx9 : spanF spanMax 0 = (18446744073709551615, 10, 0) := by decide +kernel
theorem fx10 : spanF spanNext 0 = (0, 0, 5) := by decide +kernel
theorem fx11 : num_PutSpan.f [] 127 = some [127] := by decide +kernel
theorem fx12 : num_PutSpan.f [] 128 = some [128, 0] := by decide +kernel
theorem fl0 (W : World) : ReadsInt (W.alloc (.cells #[.int .u8 255] 5)) .u8 (some ⟨W.heap.size, 0, none⟩) 1 [255] := lit_reads W [255] _ rfl (by decide)
theorem fl1 (W : World) : ReadsInt (W.alloc (.cells #[.int .u8 128, .int .u8 128, .int .u8 128, .int .u8 128, .int .u8 128, .int .u8 128, .int .u8 128, .int .u8 128, .int .u8 128, .int .u8 2] 5)) .u8 (some ⟨W.heap.size, 0, none⟩) 10 [128, 128, 128, 128, 128, 128, 128, 128, 128, 2] := lit_reads W [128, 128, 128, 128, 128, 128, 128, 128, 128, 2] _ rfl (by decide)
theorem fl2 (W : World) : ReadsInt (W.alloc (.cells #[.int .u8 128, .int .u8 128, .int .u8 128, .int .u8 128, .int .u8 128, .int .u8 128, .int .u8 128, .int .u8 128, .int .u8 128, .int .u8 1] 5)) .u8 (some ⟨W.heap.size, 0, none⟩) 10 [128, 128, 128, 128, 128, 128, 128, 128, 128, 1] := lit_reads W [128, 128, 128, 128, 128, 128, 128, 128, 128, 1] _ rfl (by decide)
theorem fl3 (W : World) : ReadsInt (W.alloc (.cells #[.int .u8 1, .int .u8 2, .int .u8 3] 5)) .u8 (some ⟨W.heap.size, 0, none⟩) 3 [1, 2, 3] := lit_reads W [1, 2, 3] _ rfl (by decide)
theorem fl4 (W : World) : ReadsInt (W.alloc (.cells #[.int .u8 1] 5)) .u8 (some ⟨W.heap.size, 0, none⟩) 1 [1] := lit_reads W [1] _ rfl (by decide)
theorem fl5 (W : World) : ReadsInt (W.alloc (.cells #[.int .u8 127] 5)) .u8 (some ⟨W.heap.size, 0, none⟩) 1 [127] := lit_reads W [127] _ rfl (by decide)
theorem fl6 (W : World) : ReadsInt (W.alloc (.cells #[.int .u8 128, .int .u8 0] 5)) .u8 (some ⟨W.heap.size, 0, none⟩) 2 [128, 0] := lit_reads W [128, 0] _ rfl (by decide)
set_option maxHeartbeats 2000000 in
set_option maxRecDepth 100000 in
theorem numFixed_calls (P : codicillaw02_NumFixed.Pure) (w : World) :
    Calls Try.prog 8 #[] w fun e w' => e = .returned (.bool true) ∧ Below w.heap.size w w' := by
  have HAW := Lib.hid P
  clear P
  have hmk : ∀ W : World, (Instr.makeSlice 22 (.int .i64 21) (.int .i64 21)).run Try.prog W = .ok (.slice (some ⟨W.heap.size, 0, none⟩) 21 21) (W.alloc (.cells (madeCells #[.int .u8 0] 21) 5)) := print_make (P := Try.prog) 22 5 .u8 1 Try.underlying22 infoU8 (by omega) 21 (by omega)
  go_enter Try.func8, Try.ntmps8
  go_wp2_with fail
  refine (codicillaw02_awake.calls true _ HAW.out).mono ?_
  rintro e w0 ⟨rfl, hb0⟩
  have HB0 := Lib.hid hb0
  clear hb0
  go_wp2_with fail
  go_loopw [31] (fun i wr => ∃ k : Nat, k ≤ 20 ∧ i = .int .i64 k ∧ wr.ownsRow w0.heap.size 5 1 (.slice (some ⟨w0.heap.size, 0, none⟩) 21 21) 21 (nums .u8 (List.replicate k 128 ++ List.replicate (21 - k) 0)) ∧ Below w.heap.size w wr) (fun i _ => 20 - (intOf i).toNat)
  case atStart => exact ⟨0, by omega, rfl, own_made w0 _ 5 .u8 21 (Nat.le_refl _) (by omega), below_alloc HB0.out _⟩
  case round =>
    obtain ⟨k, hk, rfl, ho, hb⟩ := hrel
    have HO := Lib.hid ho
    have HB := Lib.hid hb
    clear hb
    by_cases hlt : k < 20
    · have hst := own_store ho (k : Int) 128
      have hat := own_at ho (k : Int) (by omega) (by omega)
      rw [Int.toNat_natCast] at hst hat
      have hat1 := hat.1
      have hat2 := hat.2
      have HST := Lib.hid hst.1
      clear hst hat ho
      go_wp2_with fail
      go_roundw
      case rel => exact ⟨k + 1, by omega, by go_num, by rw [← setrep k hlt]; exact HST.out, HB.out.setCell (by simpa using HB0.out.size) _⟩
      case measure => simp [intOf]; omega
    · obtain rfl : k = 20 := by omega
      clear ho
      have hlong : (List.replicate 20 128 ++ List.replicate (21 - 20) 0 : List Int) = longL := rfl
      rw [hlong] at HO
      have hrd := own_reads' HO.out
      have HRD := Lib.hid hrd
      clear hrd hlong
      go_wp2_with fail
      refine (size_calls _ 21 longL 0 _ HRD.out (by decide) (by decide) (by decide)).mono ?_
      rintro e w1 ⟨he, hw⟩
      rw [fx1] at he
      unfold IsTriple at he
      subst he
      have HB1 := Lib.hid (show Below w.heap.size w w1 from hw ▸ HB.out)
      clear hw
      go_wp2_with fail
      refine (size_calls _ 1 [255] 0 _ (fl0 _) (by decide) (by decide) (by decide)).mono ?_
      rintro e w2 ⟨he, hw⟩
      rw [fx2] at he
      unfold IsTriple at he
      subst he
      have HB2 := Lib.hid (show Below w.heap.size w w2 from hw ▸ below_alloc HB1.out _)
      clear hw
      go_wp2_with fail
      refine (size_calls _ 10 [128, 128, 128, 128, 128, 128, 128, 128, 128, 2] 0 _ (fl1 _) (by decide) (by decide) (by decide)).mono ?_
      rintro e w3 ⟨he, hw⟩
      rw [fx3] at he
      unfold IsTriple at he
      subst he
      have HB3 := Lib.hid (show Below w.heap.size w w3 from hw ▸ below_alloc HB2.out _)
      clear hw
      go_wp2_with fail
      refine (size_calls _ 10 [128, 128, 128, 128, 128, 128, 128, 128, 128, 1] 0 _ (fl2 _) (by decide) (by decide) (by decide)).mono ?_
      rintro e w4 ⟨he, hw⟩
      rw [fx4] at he
      unfold IsTriple at he
      subst he
      have HB4 := Lib.hid (show Below w.heap.size w w4 from hw ▸ below_alloc HB3.out _)
      clear hw
      go_wp2_with fail
      refine (num_Big.calls 20 _ 3 [1, 2, 3] 1 2 515 0 _ (toC (fl3 _)) (by decide) fx5).mono ?_
      rintro e w5 ⟨rfl, hd⟩
      have HB5 := Lib.hid (show Below w.heap.size w w5 from below_then (below_alloc HB4.out _) (below_alloc HB4.out _).size hd.below)
      clear hd
      go_wp2_with fail
      refine (num_Big.calls 20 _ 1 [1] 1 1 0 5 _ (toC (fl4 _)) (by decide) fx6).mono ?_
      rintro e w6 ⟨rfl, hd⟩
      have HB6 := Lib.hid (show Below w.heap.size w w6 from below_then (below_alloc HB5.out _) (below_alloc HB5.out _).size hd.below)
      clear hd
      go_wp2_with fail
      refine (num_PutBig.calls _ 0 [] 256 1 [] 10 _ (toC (ReadsInt.nil _ _)) (by decide) fx7).mono ?_
      rintro e w7 ⟨v7, rfl, hr7, hb7⟩
      have HB7 := Lib.hid (show Below w.heap.size w w7 from below_then HB6.out HB6.out.size hb7)
      obtain ⟨A7, m7, c7, rfl, _, _⟩ := (Bs.ofR hr7).open_
      clear hb7 hr7
      go_wp2_with fail
      refine (num_PutSpan.calls _ 0 [] 18446744073709551615 spanMax _ (toC (ReadsInt.nil _ _)) (by decide) fx8).mono ?_
      rintro e w8 ⟨v8, rfl, hr8, hb8⟩
      have HB8 := Lib.hid (show Below w.heap.size w w8 from below_then HB7.out HB7.out.size hb8)
      have ho8 := Bs.ofR hr8
      obtain ⟨g8, c8, hv8, hg8, _⟩ := World.ownsRow.form ho8 (by decide)
      rw [show spanMax.length = 10 from rfl] at hv8
      subst hv8
      have HO8 := Lib.hid ho8
      clear hr8 hb8 ho8
      go_wp2_with fail
      refine (span_calls _ _ spanMax 0 _ (own_reads' HO8.out) (own_cap HO8.out).1 (by decide) (by decide)).mono ?_
      rintro e w9 ⟨he, hw⟩
      rw [fx9] at he
      unfold IsTriple at he
      subst he
      subst hw
      have hat := own_at HO8.out 9 (by decide) (by decide)
      have hat1 : w8.cell? ⟨g8, 9, none⟩ = some (.int .u8 127) := hat.1
      have hat2 : w8.frozen? ⟨g8, 9, none⟩ = false := hat.2
      have hst : (w8.setCell ⟨g8, 9, none⟩ (.int .u8 128)).ownsRow w7.heap.size 5 1 (.slice (some ⟨g8, 0, none⟩) 10 c8) 10 (nums .u8 (spanMax.set 9 128)) := (own_store HO8.out 9 128).1
      have HST := Lib.hid hst
      clear hat hst
      have HB9 := Lib.hid (show Below w.heap.size w (w8.setCell ⟨g8, 9, none⟩ (.int .u8 128)) from HB8.out.setCell (Nat.le_trans HB7.out.size hg8) _)
      have hl : Bs 5 ((w8.setCell ⟨g8, 9, none⟩ (.int .u8 128)).alloc (.cells #[.int .u8 255] 5)) (w8.setCell ⟨g8, 9, none⟩ (.int .u8 128)).heap.size (.slice (some ⟨w8.heap.size, 0, none⟩) 1 1) [255] := by
        have h := own_lit (w8.setCell ⟨g8, 9, none⟩ (.int .u8 128)) (w8.setCell ⟨g8, 9, none⟩ (.int .u8 128)).heap.size 5 .u8 [255] (Nat.le_refl _) (by decide)
        rw [show (w8.setCell ⟨g8, 9, none⟩ (.int .u8 128)).heap.size = w8.heap.size from by simp [World.setCell]] at h ⊢
        exact h
      have HL := Lib.hid hl
      clear hl
      go_wp2_with (at_builtin; refine brow_append_row' (w0 := w8.setCell ⟨g8, 9, none⟩ (.int .u8 128)) (w8.setCell ⟨g8, 9, none⟩ (.int .u8 128)).heap.size rfl (.tmp 92) (.tmp 93) 22 5 rfl Try.underlying22 infoU8 (.slice (some ⟨w8.heap.size, 0, none⟩) 1 1) [255] (spanMax.set 9 128) (some ⟨g8, 0, none⟩) 10 c8 rfl rfl HL.out ((own_reads' HST.out).allocS _) (below_alloc (Below.refl _ _) _) (by simp) (by decide) ?_; intro v10 w10 hown10 hb10; have HO10 := Lib.hid hown10; have HB10 := Lib.hid hb10; clear hown10 hb10; obtain ⟨A10, n10, c10, hv10, ho10, hn10⟩ := HO10.out.open_; subst hv10)
      have hn10' : n10 = spanNext.length := hn10.out
      subst hn10'
      have hs10 := span_calls A10 c10 spanNext 0 w10 (own_reads' ho10.out) (own_cap ho10.out).1 (by decide) (by decide)
      refine hs10.mono ?_
      rintro e w11 ⟨he, hw⟩
      rw [fx10] at he
      unfold IsTriple at he
      subst he
      have HB11 := Lib.hid (show Below w.heap.size w w11 from hw ▸ below_then HB9.out HB9.out.size HB10.out)
      clear hw hs10
      go_wp2_with fail
      refine (num_PutSpan.calls _ 0 [] 127 [127] _ (toC (ReadsInt.nil _ _)) (by decide) fx11).mono ?_
      rintro e w12 ⟨v12, rfl, hr12, hb12⟩
      have HB12 := Lib.hid (show Below w.heap.size w w12 from below_then HB11.out HB11.out.size hb12)
      have ho12 := Bs.ofR hr12
      obtain ⟨g12, c12, hv12, hg12, _⟩ := World.ownsRow.form ho12 (by decide)
      rw [show ([127] : List Int).length = 1 from rfl] at hv12
      subst hv12
      have HO12 := Lib.hid ho12
      clear hr12 hb12 ho12
      go_wp2_with fail
      refine (codicilref01_Same.calls (some ⟨g12, 0, none⟩) c12 [127] (some ⟨w12.heap.size, 0, none⟩) 1 [127] true _ (toC ((own_reads' HO12.out).allocS _)) (own_cap HO12.out).1 (toC (fl5 w12)) (by decide) (by simp [codicilref01_Same.f])).mono ?_
      rintro e w13 ⟨rfl, hd⟩
      have HB13 := Lib.hid (show Below w.heap.size w w13 from below_then (below_alloc HB12.out _) (below_alloc HB12.out _).size hd.below)
      clear hd
      go_wp2_with fail
      refine (num_PutSpan.calls _ 0 [] 128 [128, 0] _ (toC (ReadsInt.nil _ _)) (by decide) fx12).mono ?_
      rintro e w14 ⟨v14, rfl, hr14, hb14⟩
      have HB14 := Lib.hid (show Below w.heap.size w w14 from below_then HB13.out HB13.out.size hb14)
      have ho14 := Bs.ofR hr14
      obtain ⟨g14, c14, hv14, hg14, _⟩ := World.ownsRow.form ho14 (by decide)
      rw [show ([128, 0] : List Int).length = 2 from rfl] at hv14
      subst hv14
      have HO14 := Lib.hid ho14
      clear hr14 hb14 ho14
      go_wp2_with fail
      refine (codicilref01_Same.calls (some ⟨g14, 0, none⟩) c14 [128, 0] (some ⟨w14.heap.size, 0, none⟩) 2 [128, 0] true _ (toC ((own_reads' HO14.out).allocS _)) (own_cap HO14.out).1 (toC (fl6 w14)) (by decide) (by simp [codicilref01_Same.f])).mono ?_
      rintro e w15 ⟨rfl, hd⟩
      have HB15 := Lib.hid (show Below w.heap.size w w15 from below_then (below_alloc HB14.out _) (below_alloc HB14.out _).size hd.below)
      clear hd
      go_wp2_with fail
      go_ret
      exact ⟨rfl, HB15.out⟩
theorem codicillaw02_NumFixed.walk (P : codicillaw02_NumFixed.Pure) (w : World) :
    Calls Try.prog 8 #[] w fun e w' => e = .returned (.bool true) ∧ Below w.heap.size w w' := numFixed_calls P w


end Go.Proofs.Ytiocipmnmjpkfaa.PF
