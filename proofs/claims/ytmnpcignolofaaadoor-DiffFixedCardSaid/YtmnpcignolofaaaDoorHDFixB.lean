/- codicillaw19.DiffFixed: walked. -/
import Derived.Test.YtmnpcignolofaaaDoorHDFixA
import Derived.Test.YtmnpcignolofaaaDoorHAwk
import Derived.Test.YtmnpcignolofaaaDoorHText
import Derived.Test.YtmnpcignolofaaaDoorHSameB
import Derived.Test.YtmnpcignolofaaaDoorHLines
namespace Go.Proofs.YtmnpcignolofaaaDoor
set_option linter.unusedVariables false
set_option linter.unusedSimpArgs false
open Go.RowKit Go.Shelf Go.Proofs.YtmnpcignolofaaaDoorW.PrintWords Go.Proofs.YtmnpcignolofaaaDoorW.PrintMore
def tX : ByteArray := ⟨#[120, 10]⟩
def tY : ByteArray := ⟨#[121, 10]⟩
def tZ : ByteArray := ⟨#[122]⟩
theorem dt_10 : dd [tX, tY] [tY, tZ] 1 0 = 1 := by decide +kernel
theorem dt_01 : dd [tX, tY] [tY, tZ] 0 1 = 3 := by decide +kernel
theorem way_t : wayP [tX, tY] [tY, tZ] = [(0, 0), (1, 0), (2, 1), (2, 2)] := by
  have s0 : stepD [tX, tY] [tY, tZ] 0 0 = (1, 0) := by
    unfold stepD
    rw [if_neg (by decide), if_pos ⟨by decide, .inr (by rw [dt_10, dt_01]; decide)⟩]
  have s1 : stepD [tX, tY] [tY, tZ] 1 0 = (1, 1) := by
    unfold stepD
    rw [if_pos (by decide)]
  have s2 : stepD [tX, tY] [tY, tZ] 2 1 = (0, 1) := by
    unfold stepD
    rw [if_neg (by decide), if_neg (fun h => absurd h.1 (by decide))]
  unfold wayP
  rw [wayW_go (by decide) (by decide) (by decide), s0]
  show (0, 0) :: (1, 0) :: wayW [tX, tY] [tY, tZ] 1 0 = _
  rw [wayW_go (by decide) (by decide) (by decide), s1]
  show (0, 0) :: (1, 0) :: (2, 1) :: wayW [tX, tY] [tY, tZ] 2 1 = _
  rw [wayW_go (by decide) (by decide) (by decide), s2]
  show (0, 0) :: (1, 0) :: (2, 1) :: (2, 2) :: wayW [tX, tY] [tY, tZ] 2 2 = _
  rw [show wayW [tX, tY] [tY, tZ] 2 2 = [] from wayW_end [tX, tY] [tY, tZ]]
theorem text_t : textT [tX, tY] [tY, tZ] = [45, 120, 10, 32, 121, 10, 43, 122, 10, 92, 10] := by
  unfold textT
  rw [way_t]
  decide +kernel
/-- Two lists of two lines, laid. -/
def two (w : World) (a b c d : ByteArray) : World := (w.alloc (.cells #[.string a, .string b] 9)).alloc (.cells #[.string c, .string d] 9)
theorem two_reads (w : World) (a b c d : ByteArray) : ReadsOf Value.string ByteArray.empty (two w a b c d) (some ⟨w.heap.size, 0, none⟩) 2 [a, b] ∧ ReadsOf Value.string ByteArray.empty (two w a b c d) (some ⟨w.heap.size + 1, 0, none⟩) 2 [c, d] ∧ Below w.heap.size w (two w a b c d) := by
  refine ⟨(aw19_lits w a b).below (below_alloc (Below.refl _ _) _), ?_, below_alloc (below_alloc (Below.refl _ _) _) _⟩
  have h := aw19_lits (w.alloc (.cells #[.string a, .string b] 9)) c d
  have e : (w.alloc (.cells #[.string a, .string b] 9)).heap.size = w.heap.size + 1 := by simp
  rw [e] at h
  exact h
theorem dfix_text (w : World) : Calls Tryd.prog 16 #[.slice (some ⟨w.heap.size, 0, none⟩) 2 2, .slice (some ⟨w.heap.size + 1, 0, none⟩) 2 2] (two w tX tY tY tZ) fun e w' => e = .returned (.tuple #[.string ⟨#[45, 120, 10, 32, 121, 10, 43, 122, 10, 92, 10]⟩, .int .i64 0]) ∧ Below w.heap.size w w' := by
  have h := two_reads w tX tY tY tZ
  refine (text_calls (two w tX tY tY tZ) _ 2 [tX, tY] _ 2 [tY, tZ] h.1 h.2.1 (by decide) (by decide) (by decide) (by decide)).mono ?_
  rintro e w1 ⟨rfl, hb⟩
  rw [text_t]
  exact ⟨rfl, below_then h.2.2 h.2.2.size hb⟩
theorem way_nil : wayP [] [] = [(0, 0)] := by
  unfold wayP
  rw [show wayW ([] : List ByteArray) [] 0 0 = [] from wayW_end [] []]
theorem dfix_way (w : World) : Calls Tryd.prog 15 #[.slice none 0 0, .slice none 0 0] w fun e w' => ∃ g c, e = .returned (.tuple #[.slice (some ⟨g, 0, none⟩) 1 c, .int .i64 0]) ∧ w'.cell? ⟨g, 0, none⟩ = some (.complex .f64 0 0) ∧ w.heap.size ≤ g ∧ Below w.heap.size w w' := by
  refine (diffWay_calls w none 0 [] none 0 [] (ReadsOf.nil _ _ _) (ReadsOf.nil _ _ _) (by decide) (by decide) (by simp) (by simp)).mono ?_
  rintro e w1 ⟨v, rfl, hv, hb⟩
  rw [way_nil] at hv
  obtain ⟨g, c, rfl⟩ := own_pos hv (by decide)
  have h := hv.cells (g := g) rfl 0 (pt (0, 0)) rfl
  rw [pt_00] at h
  exact ⟨g, c, rfl, by rw [add_plain] at h; exact h, own_base hv g rfl, hb⟩
theorem lines_ab : linesF [97, 10, 98] = [[97, 10], [98]] := by decide
theorem str_a : strOfNums [97, 10] = ⟨#[97, 10]⟩ := by decide +kernel
theorem str_b : strOfNums [98] = ⟨#[98]⟩ := by decide +kernel
theorem dfix_lines (w : World) : Calls Tryd.prog 12 #[.slice (some ⟨w.heap.size, 0, none⟩) 3 3] (w.alloc (.cells #[.int .u8 97, .int .u8 10, .int .u8 98] 5 (3, 4))) fun e w' => ∃ A c, e = .returned (.slice A 2 c) ∧ ReadsOf Value.string ByteArray.empty w' A 2 [⟨#[97, 10]⟩, ⟨#[98]⟩] ∧ Below w.heap.size w w' := by
  refine (lines_calls _ (some ⟨w.heap.size, 0, none⟩) 3 [97, 10, 98] (const_reads w 5 [97, 10, 98] _ (3, 4) rfl (by decide)) (by decide) (by decide) (by decide)).mono ?_
  rintro e w1 ⟨v, rfl, hv, hb⟩
  rw [lines_ab] at hv
  obtain ⟨A, c, rfl⟩ := own_slice hv
  have hb0 := below_alloc (Below.refl w.heap.size w) (.cells #[.int .u8 97, .int .u8 10, .int .u8 98] 5 (3, 4))
  have e : ([[97, 10], [98]] : List (List Int)).map strV = encs Value.string [⟨#[97, 10]⟩, ⟨#[98]⟩] := by
    simp only [List.map_cons, List.map_nil, strV, str_a, str_b, encs]
  rw [e] at hv
  exact ⟨A, c, rfl, own_reads_of' hv, below_then hb0 hb0.size hb⟩
theorem lines_no : linesF [] = [] := by decide
theorem make_lines (w : World) (n : Nat) (hn : n ≤ 1001) : ∃ w', (∀ x : Int, x = n → (Instr.makeSlice 24 (.int .i64 x) (.int .i64 x)).run Tryd.prog w = .ok (.slice (some ⟨w.heap.size, 0, none⟩) n n) w') ∧ ReadsOf Value.string ByteArray.empty w' (some ⟨w.heap.size, 0, none⟩) n (List.replicate n ByteArray.empty) ∧ Below w.heap.size w w' := by
  obtain ⟨i0, hi0, hz0, hz1, hz2⟩ := info_parts infoS
  obtain ⟨w', h1, h2, h3⟩ := run_make_full (P := Tryd.prog) w w.heap.size 24 9 i0 (.string .empty) 1 Tryd.underlying24 hi0 hz0 hz1 .i64 .i64 n (by rw [hz2]; omega) (by unfold maxLen; omega) (Nat.le_refl _)
  refine ⟨w', fun x hx => by rw [hx]; exact h1, ?_, ⟨h3.os, h3.tape, h3.output, h3.size, fun i hi => h3.block i hi (by simp)⟩⟩
  rw [Nat.mul_one] at h2
  have e : (madeCells (Value.string ByteArray.empty).cells n).toList = encs Value.string (List.replicate n ByteArray.empty) := by
    show (madeCells #[Value.string ByteArray.empty] n).toList = _
    rw [toList_madeCells_one]
    unfold encs
    rw [List.map_replicate]
  rw [e] at h2
  exact own_reads_of' h2
theorem rest_1000 : (dist (txs (List.replicate 1000 ByteArray.empty)) (txs []) : Int) = 1000 := by
  show ((dist (txs (List.replicate 1000 ByteArray.empty)) [] : Nat) : Int) = 1000
  rw [dist_nil2]
  rw [show (txs (List.replicate 1000 ByteArray.empty)).length = 1000 by unfold txs; rw [List.length_map, List.length_replicate]]
  rfl
/-- The six hunks, laid. -/
def sixC : Array Value := #[.complex .f64 4607182418800017408 4607182418800017408, .complex .f64 4607182418800017408 4607182418800017408, .complex .f64 4607182418800017408 4607182418800017408, .complex .f64 4613937818241073152 4611686018427387904, .complex .f64 4607182418800017408 0, .complex .f64 4611686018427387904 4607182418800017408, .complex .f64 4607182418800017408 4607182418800017408, .complex .f64 4611686018427387904 4607182418800017408, .complex .f64 4602678819172646912 4602678819172646912, .complex .f64 4611686018427387904 4611686018427387904, .complex .f64 13830554455654793216 13830554455654793216, .complex .f64 4611686018427387904 4611686018427387904]
theorem six_no (W : World) (K : Nat) (hk : W.heap[K]? = some (.cells sixC 38 (0, 0))) (i : Nat) (hi : i < 6) : ∃ X1 Y1 X2 Y2, W.cell? ⟨K, i * 2, none⟩ = some (.complex .f64 X1 Y1) ∧ W.cell? ⟨K, i * 2 + 1, none⟩ = some (.complex .f64 X2 Y2) ∧
    ∀ (w : World) (g : Nat), w.cell? ⟨g, 0, none⟩ = some (.complex .f64 X1 Y1) → w.cell? ⟨g, 1, none⟩ = some (.complex .f64 X2 Y2) → Calls Tryd.prog 39 #[.slice (some ⟨g, 0, none⟩) 1 1, .int .i64 2, .int .i64 2] w fun e w' => e = .returned (.bool false) ∧ Below w.heap.size w w' := by
  rcases i with _ | _ | _ | _ | _ | _ | i
  · exact ⟨_, _, _, _, blk_cell hk 0, blk_cell hk 1, form_no0⟩
  · exact ⟨_, _, _, _, blk_cell hk 2, blk_cell hk 3, form_no1⟩
  · exact ⟨_, _, _, _, blk_cell hk 4, blk_cell hk 5, form_no2⟩
  · exact ⟨_, _, _, _, blk_cell hk 6, blk_cell hk 7, form_no3⟩
  · exact ⟨_, _, _, _, blk_cell hk 8, blk_cell hk 9, form_no4⟩
  · exact ⟨_, _, _, _, blk_cell hk 10, blk_cell hk 11, form_no5⟩
  · omega
set_option maxRecDepth 100000 in
set_option maxHeartbeats 40000000 in
theorem dfix_calls (w : World) : Calls Tryd.prog 4 #[] w fun e w' => e = .returned (.bool true) ∧ Below w.heap.size w w' := by
  go_enter Tryd.func4, Tryd.ntmps4
  go_wp2_with fail
  refine (codicillaw19_awake.calls true w rfl).mono ?_
  rintro e w1 ⟨rfl, hb⟩
  have HB1 := Lib.hid hb
  clear hb
  go_wp2_with fail
  refine (dfix_way w1).mono ?_
  rintro e w2 ⟨g2, c2, rfl, k2, hg2, hb2⟩
  have HB2 := Lib.hid (below_then HB1.out HB1.out.size hb2)
  have HK2 := Lib.hid k2
  have hg2s : g2 < w2.heap.size := World.block_lt_of_cell? w2 _ k2
  clear hb2 k2 HB1
  go_wp2_with fail
  refine (dfix_text w2).mono ?_
  rintro e w3 ⟨rfl, hb3⟩
  have HB3 := Lib.hid (below_then HB2.out HB2.out.size hb3)
  have HK3 := Lib.hid ((hb3.cell (p := ⟨g2, 0, none⟩) hg2s).trans HK2.out)
  have hs3 := hb3.size
  clear hb3 HB2 HK2
  have kc := fun (w : World) (C : Array Value) (n c : Nat) => Lib.run_convert_bytes_const (P := Tryd.prog) w 22 5 C n c Tryd.underlying22 Tryd.underlying5
  have kc1 := kc w3 #[.int .u8 97, .int .u8 10, .int .u8 98] 3 3
  clear kc
  go_wp2_with fail
  refine (dfix_lines w3).mono ?_
  rintro e w4 ⟨A5, c5, rfl, hr5, hb4⟩
  have HB4 := Lib.hid (below_then HB3.out HB3.out.size hb4)
  have HK4 := Lib.hid ((hb4.cell (p := ⟨g2, 0, none⟩) (Nat.lt_of_lt_of_le hg2s hs3)).trans HK3.out)
  have HR5 := Lib.hid hr5
  have hs4 := hb4.size
  clear hb4 hr5 HB3 HK3 kc1
  obtain ⟨w5, hm5, hr6, hb5⟩ := make_lines w4 1001 (by decide)
  have hm5 := hm5 1001 rfl
  have HL5 := Lib.hid (way_long w5 (some ⟨w4.heap.size, 0, none⟩) 1001 1001 none 0 0 (.inl (by decide)) (by decide) (by decide))
  have HB5 := Lib.hid (below_then HB4.out HB4.out.size hb5)
  have HK5 := Lib.hid ((hb5.cell (p := ⟨g2, 0, none⟩) (show g2 < _ by omega)).trans HK4.out)
  have HR5 := Lib.hid (HR5.out.below hb5)
  have hs5 := hb5.size
  clear hb5 HB4 HK4 hr6
  go_wp2_with fail
  refine HL5.out.mono ?_
  rintro e w' ⟨rfl, hw'⟩
  subst hw'
  obtain ⟨w6, hm6, hr6, hb6⟩ := make_lines w' 1000 (by decide)
  have hm6 := hm6 1000 rfl
  have HL6 := Lib.hid (rest_calls w6 (some ⟨w'.heap.size, 0, none⟩) 1000 (List.replicate 1000 ByteArray.empty) none 0 [] (by rw [List.length_replicate]; exact hr6) (ReadsOf.nil _ _ _) (by rw [List.length_replicate]; decide) (by decide) (fun s hs => by rw [List.eq_of_mem_replicate hs]; decide) (by simp))
  rw [rest_1000, List.length_replicate] at HL6
  have HB6 := Lib.hid (below_then HB5.out HB5.out.size hb6)
  have HK6 := Lib.hid ((hb6.cell (p := ⟨g2, 0, none⟩) (show g2 < _ by omega)).trans HK5.out)
  have HR6 := Lib.hid (HR5.out.below hb6)
  have hs6 := hb6.size
  clear hb6 HB5 HK5 hr6 hm5 HR5 HL5
  go_wp2_with fail
  refine HL6.out.mono ?_
  rintro e w7 ⟨rfl, hb7⟩
  have HB7 := Lib.hid (below_then HB6.out HB6.out.size hb7)
  have HK7 := Lib.hid ((hb7.cell (p := ⟨g2, 0, none⟩) (show g2 < _ by omega)).trans HK6.out)
  have HR7 := Lib.hid (HR6.out.below hb7)
  have hs7 := hb7.size
  clear hb7 HB6 HK6 HR6 hm6 HL6
  go_wp2_with fail
  obtain ⟨V, hV⟩ : ∃ V, V = two w7 ⟨#[112]⟩ ⟨#[113]⟩ ⟨#[112]⟩ ⟨#[114]⟩ := ⟨_, rfl⟩
  have h2 := two_reads w7 ⟨#[112]⟩ ⟨#[113]⟩ ⟨#[112]⟩ ⟨#[114]⟩
  rw [← hV] at h2
  have hVs : V.heap.size = w7.heap.size + 2 := by rw [hV]; simp [two]
  obtain ⟨V3, hV3⟩ : ∃ V3, V3 = V.alloc (.cells sixC 38) := ⟨_, rfl⟩
  have k3 : V3.heap[V.heap.size]? = some (.cells sixC 38 (0, 0)) := by rw [hV3]; exact heap_alloc_new V _
  have hb3 : Below w7.heap.size w7 V3 := by rw [hV3]; exact below_alloc h2.2.2 _
  have h0 : (((w7.alloc (.cells #[.string ⟨#[112]⟩, .string ⟨#[113]⟩] 9)).alloc (.cells #[.string ⟨#[112]⟩, .string ⟨#[114]⟩] 9)).alloc (.cells sixC 38)) = V3 := by rw [hV3, hV]; rfl
  unfold sixC at h0
  rw [h0]
  rw [show V.heap.size = w7.heap.size + 1 + 1 by omega] at k3
  have HK3 := Lib.hid k3
  have HP := Lib.hid (h2.1.below (by rw [hV3]; exact below_alloc (Below.refl _ _) _ : Below V.heap.size V V3))
  have HQ := Lib.hid (h2.2.1.below (by rw [hV3]; exact below_alloc (Below.refl _ _) _ : Below V.heap.size V V3))
  have HB8 := Lib.hid (below_then HB7.out HB7.out.size hb3)
  have HK8 := Lib.hid ((hb3.cell (p := ⟨g2, 0, none⟩) (show g2 < _ by omega)).trans HK7.out)
  have HR8 := Lib.hid (HR7.out.below hb3)
  have hs8 := hb3.size
  clear h0 hV hV3 h2 k3 hb3 HB7 HK7 HR7 hVs
  go_loopw [53] (fun v53 wr => ∃ i : Nat, v53 = .int .i64 i ∧ i ≤ 6 ∧ Hid (Below V3.heap.size V3 wr)) (fun v53 _ => 6 - (intOf v53).toNat)
  case atStart => exact ⟨0, rfl, by omega, Lib.hid (Below.refl _ _)⟩
  case round =>
    obtain ⟨i, rfl, hi, hbel⟩ := hrel
    by_cases hlt : i < 6
    · have i0 : (0 : Int) ≤ (i : Int) := by omega
      have i1 : (i : Int) < 6 := by omega
      obtain ⟨X1, Y1, X2, Y2, k1, k2, hform⟩ := six_no wr (w7.heap.size + 1 + 1) ((hbel.out.block _ (blk_lt HK3.out)).trans HK3.out) i hlt
      have s1 := sto_cx X1 Y1
      have s2 := sto_cx X2 Y2
      have HFM := Lib.hid hform
      clear hform
      go_wp2_with fail
      obtain ⟨U, hU⟩ : ∃ U, U = (wr.alloc (.cells #[.complex .f64 X1 Y1, .complex .f64 X2 Y2] 38)).alloc (.cells #[.complex .f64 X1 Y1, .complex .f64 X2 Y2] 38) := ⟨_, rfl⟩
      have ku : U.heap[wr.heap.size + 1]? = some (.cells #[.complex .f64 X1 Y1, .complex .f64 X2 Y2] 38 (0, 0)) := by
        rw [hU]
        have := heap_alloc_new (wr.alloc (.cells #[.complex .f64 X1 Y1, .complex .f64 X2 Y2] 38)) (.cells #[.complex .f64 X1 Y1, .complex .f64 X2 Y2] 38)
        rwa [World.size_alloc] at this
      have hbu : Below wr.heap.size wr U := by rw [hU]; exact below_alloc (below_alloc (Below.refl _ _) _) _
      have hlu : wr.heap.size + 1 < U.heap.size := blk_lt ku
      rw [← hU]
      clear hU
      refine (apply_no U (some ⟨w7.heap.size, 0, none⟩) 2 (some ⟨w7.heap.size + 1, 0, none⟩) 2 (wr.heap.size + 1) (fun W hW => HFM.out W _ (blk_cell ((hW.block _ hlu).trans ku) 0) (blk_cell ((hW.block _ hlu).trans ku) 1))).mono ?_
      rintro e w9 ⟨rfl, hb9⟩
      have HB9 := Lib.hid (below_then hbel.out hbel.out.size (below_then hbu hbu.size hb9))
      clear hb9 hbu ku
      go_wp2_with fail
      go_roundw
      case rel => exact ⟨i + 1, by go_num, by omega, HB9⟩
      case measure => simp only [intOf]; omega
    · obtain rfl : i = 6 := by omega
      go_wp2_with fail
      obtain ⟨U, hU⟩ : ∃ U, U = wr.alloc (.cells #[.complex .f64 4607182418800017408 4607182418800017408, .complex .f64 4611686018427387904 4611686018427387904] 38) := ⟨_, rfl⟩
      have hou : U.ownsRow wr.heap.size 38 2 (.slice (some ⟨wr.heap.size, 0, none⟩) 1 1) 1 (hc [((1, 1), (2, 2))]) := by
        have h := World.ownsRow_lit (base := wr.heap.size) (e := 38) (size := 2) wr #[.complex .f64 4607182418800017408 4607182418800017408, .complex .f64 4611686018427387904 4611686018427387904] 1 (Nat.le_refl _) (by decide) rfl
        rw [hU]
        have e : hc [((1, 1), (2, 2))] = [.complex .f64 4607182418800017408 4607182418800017408, .complex .f64 4611686018427387904 4611686018427387904] := by
          show [pt (1, 1), pt (2, 2)] = _
          unfold pt
          rw [fl_1, fl_2]
        rw [e]
        exact h
      have hbu : Below V3.heap.size V3 U := by rw [hU]; exact hbel.out.alloc hbel.out.size _
      rw [← hU]
      clear hU
      have HAP := Lib.hid (apply_calls U (some ⟨w7.heap.size, 0, none⟩) 2 [⟨#[112]⟩, ⟨#[113]⟩] (some ⟨w7.heap.size + 1, 0, none⟩) 2 [⟨#[112]⟩, ⟨#[114]⟩] wr.heap.size _ [((1, 1), (2, 2))] (HP.out.below hbu) (HQ.out.below hbu) (by decide) (by decide) (by decide) hou ⟨by decide, by decide, by decide, by decide, by decide, by decide, by decide, by decide, rfl⟩)
      refine HAP.out.mono ?_
      rintro e w9 ⟨v9, rfl, ho9, hb9⟩
      have e9 : app [⟨#[112]⟩, ⟨#[113]⟩] [⟨#[112]⟩, ⟨#[114]⟩] [((1, 1), (2, 2))] = [⟨#[112]⟩, ⟨#[114]⟩] := by rfl
      rw [e9] at ho9
      obtain ⟨A9, c9, rfl⟩ := own_slice ho9
      have HR9 := Lib.hid (own_reads_of' (d := ByteArray.empty) ho9)
      have hb9' := below_then hbu hbu.size hb9
      have HB9 := Lib.hid (below_then HB8.out HB8.out.size hb9')
      have HQ9 := Lib.hid (HQ.out.below hb9')
      have HR59 := Lib.hid (HR8.out.below hb9')
      have c9z : w9.cell? ⟨g2, 0, none⟩ = some (.complex .f64 0 0) := (hb9'.cell (p := ⟨g2, 0, none⟩) (show g2 < _ by omega)).trans HK8.out
      have q0 : (FloatKind.f64.format.order 0 0 == some .eq) = true := by decide +kernel
      have gq := eq_guardC .eql
      clear ho9 hb9 hb9' hbu hou HAP HP HQ HB8 HR8 HK8 HK3
      go_wp2_with fail
      refine (sameLines_calls _ A5 c5 (some ⟨w9.heap.size, 0, none⟩) 2 2 2 [⟨#[97, 10]⟩, ⟨#[98]⟩] rfl rfl (HR59.out.below (below_alloc (Below.refl _ _) _)) (aw19_lits w9 _ _)).mono ?_
      rintro e wa ⟨rfl, ka, rfl⟩
      have HBa := Lib.hid (pw_below_drewN (below_alloc (Below.refl w9.heap.size w9) (.cells #[.string ⟨#[97, 10]⟩, .string ⟨#[98]⟩] 9)) ka)
      go_wp2_with fail
      refine (sameLines_calls _ A9 c9 (some ⟨w7.heap.size + 1, 0, none⟩) 2 2 2 [⟨#[112]⟩, ⟨#[114]⟩] rfl rfl (HR9.out.below HBa.out) (HQ9.out.below HBa.out)).mono ?_
      rintro e wb ⟨rfl, kb, rfl⟩
      have HBb := Lib.hid (pw_below_drewN HBa.out kb)
      go_wp2_with fail
      refine (lines_calls _ none 0 [] ⟨rfl, by simp, fun h => absurd h (Nat.lt_irrefl 0)⟩ (Nat.le_refl _) (by simp) (by decide)).mono ?_
      rintro e wc ⟨v, rfl, hv, hbc⟩
      rw [lines_no] at hv
      obtain ⟨Ac, cc, rfl⟩ := own_slice hv
      have HBc := Lib.hid (below_then HB9.out HB9.out.size (below_then (by have h := HBb.out; rwa [World.drewN_drewN] at h) (by simp) hbc))
      clear hv hbc
      go_wp2_with fail
      go_ret
      exact ⟨rfl, HBc.out⟩
end Go.Proofs.YtmnpcignolofaaaDoor
