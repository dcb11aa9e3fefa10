-- Written by fprint.py, a program of this session, over the translation. Not trusted: Lean checks it.
import Derived.Test.YtkdklcamgcmifaaDoorPBx0
import Derived.Test.YtkdklcamgcmifaaDoorPBx1
namespace Go.Proofs.YtkdklcamgcmifaaDoor.PB
open Go.RowKit Go.Proofs.YtkdklcamgcmifaaDoorW.PrintWords Go.Proofs.YtkdklcamgcmifaaDoorW.PrintLast Go.Proofs.YtkdklcamgcmifaaDoorW.PrintMore
attribute [local go_sem] max2_int min2_int max_two min_two max_three min_three max_four min_four   -- for this text's walks alone
set_option linter.unusedVariables false
set_option linter.unusedSimpArgs false

/-! ### deflate_fixed: function 37 -/
/-- From the place i on, T of N bits having been written: what there is before the end's symbol. -/
def fixT (l : List Int) (i T N : Nat) : Nat × Nat :=
  if h : i < l.length then
    if hn : (mat l i).1 = 0 then fixT l (i + 1) (T + symV (l.getD i 0).toNat * 2 ^ N) (N + symN (l.getD i 0).toNat)
    else fixT l (i + (mat l i).1) (T + lenV (mat l i).1 * 2 ^ N + disV (mat l i).2 * 2 ^ (N + lenN (mat l i).1)) (N + lenN (mat l i).1 + disN (mat l i).2)
  else (T, N)
termination_by l.length - i
decreasing_by all_goals omega
theorem fixT_end {l : List Int} {i T N : Nat} (h : l.length ≤ i) : fixT l i T N = (T, N) := by rw [fixT, dif_neg (by omega)]
theorem fixT_lit {l : List Int} {i T N : Nat} (h : i < l.length) (hn : (mat l i).1 = 0) : fixT l i T N = fixT l (i + 1) (T + symV (l.getD i 0).toNat * 2 ^ N) (N + symN (l.getD i 0).toNat) := by
  conv => lhs; rw [fixT]
  rw [dif_pos h, dif_pos hn]
theorem fixT_mat {l : List Int} {i T N : Nat} (h : i < l.length) (hn : (mat l i).1 ≠ 0) : fixT l i T N = fixT l (i + (mat l i).1) (T + lenV (mat l i).1 * 2 ^ N + disV (mat l i).2 * 2 ^ (N + lenN (mat l i).1)) (N + lenN (mat l i).1 + disN (mat l i).2) := by
  conv => lhs; rw [fixT]
  rw [dif_pos h, dif_neg hn]
/-- The bytes of the stream of way 1. -/
def fixedB (l : List Int) : List Int := leB (((fixT l 0 3 3).2 + symN 256 + 7) / 8) ((fixT l 0 3 3).1 + symV 256 * 2 ^ (fixT l 0 3 3).2)
theorem lenE_le (n : Nat) (h0 : 3 ≤ n) (h1 : n ≤ 258) : lenN n ≤ 17 := by
  have hs := symN_le (lenS n)
  unfold lenN lenE
  by_cases h : n = 258
  · rw [if_pos h]; omega
  · rw [if_neg h]
    by_cases h2 : n < 11
    · rw [if_pos h2]; omega
    · rw [if_neg h2]
      obtain ⟨e1, e2, e3⟩ := exN_eq (n - 3) 3 3 (Nat.le_refl _) (by omega)
      have : exN (n - 3) 3 + 3 - 1 < 8 := (Nat.pow_lt_pow_iff_right (by decide : 1 < 2)).1 (by omega)
      omega
theorem disE_le (n : Nat) (h0 : 1 ≤ n) (h1 : n ≤ 32768) : disN n ≤ 18 := by
  unfold disN disE
  by_cases h2 : n - 1 < 4
  · rw [if_pos h2]; omega
  · rw [if_neg h2]
    obtain ⟨e1, e2, e3⟩ := exN_eq (n - 1) 2 2 (Nat.le_refl _) (by omega)
    have : exN (n - 1) 2 + 2 - 1 < 15 := (Nat.pow_lt_pow_iff_right (by decide : 1 < 2)).1 (by omega)
    omega
theorem wr_note {w0 : World} {base g f M V : Nat} {A : Option Addr} {c cv : Nat} {l : List Int} {i T N : Nat} {W W' : World} (hw : Wr base g W T N) (hF : Fd w0 f M V A c cv l i W) (h : MF M V W W') : Wr base g W' T N := by
  have hlt := hw.lt
  have hrow := hw.row_ge
  obtain ⟨v, hb, ho, hbg, hT⟩ := hw
  obtain ⟨P, hP, _⟩ := hF.row
  obtain ⟨cur, hV⟩ := own_typed hP V rfl
  obtain ⟨D, k, ⟨es, clock, hM, _⟩, _⟩ := hF.map
  refine Wr.keep ⟨v, hb, ho, hbg, hT⟩ (h.keep g hlt ?_ (blk_ne hb hV (by decide))) fun i hi => h.keep i (hrow i hi).2 ?_ ?_
  · rintro rfl
    rw [hb] at hM
    cases hM
  · rintro rfl
    rw [rowOf_eq hb rfl] at hi
    obtain ⟨cur2, h2⟩ := own_typed ho i hi
    rw [h2] at hM
    cases hM
  · rw [rowOf_eq hb rfl] at hi
    obtain ⟨cur2, h2⟩ := own_typed ho i hi
    exact blk_ne h2 hV (by decide)
theorem fd_put {w0 : World} {g f M V : Nat} {A : Option Addr} {c cv : Nat} {l : List Int} {i T N : Nat} {W W' : World} (hw : Wr w0.heap.size g W T N) (hF : Fd w0 f M V A c cv l i W) (h : SF g W W') : Fd w0 f M V A c cv l i W' := by
  have hrow := hw.row_ge
  obtain ⟨v, hb, ho, hbg, hT⟩ := hw
  obtain ⟨P, hP, hPv⟩ := hF.row
  obtain ⟨cur, hV⟩ := own_typed hP V rfl
  obtain ⟨D, k, hown, hk, hD⟩ := hF.map
  have hown' := hown
  obtain ⟨es, clock, hM, hM2⟩ := hown'
  have hr : ∀ j, rowOf W g = some j → ∃ cur2, W.heap[j]? = some (.cells cur2 5 (0, 0)) := fun j hj => by
    rw [rowOf_eq hb rfl] at hj
    exact own_typed ho j hj
  have kf : W'.heap[f]? = W.heap[f]? := h.keep f (blk_lt hF.blk) (blk_ne hF.blk hb (by decide)) fun e => by
    obtain ⟨cur2, h2⟩ := hr f e
    exact blk_ne hF.blk h2 (by decide) rfl
  have kV : W'.heap[V]? = W.heap[V]? := h.keep V (blk_lt hV) (blk_ne hV hb (by decide)) fun e => by
    obtain ⟨cur2, h2⟩ := hr V e
    exact blk_ne hV h2 (by decide) rfl
  have kM : W'.heap[M]? = W.heap[M]? := h.keep M (blk_lt hM) (by rintro rfl; rw [hb] at hM; cases hM) fun e => by
    obtain ⟨cur2, h2⟩ := hr M e
    rw [h2] at hM
    cases hM
  exact ⟨kf.trans hF.blk, hF.bf, hF.bM, hF.rd, h.below hF.below hF.below.size hbg (fun j hj => (hrow j hj).1), ⟨D, k, ⟨es, clock, kM.trans hM, hM2⟩, hk, hD⟩, P, own_move hP (fun j hj => by
    have : V = j := by simpa [Value.ownBlock] using hj
    rw [← this]
    exact kV), hPv⟩
theorem wr_new (w : World) : Wr w.heap.size w.heap.size (w.alloc (.cells #[.slice none 0 0, .int .u32 0, .int .i64 0] 79)) 0 0 :=
  ⟨.slice none 0 0, heap_alloc_new w _, World.ownsRow_nil _ _ _ _, Nat.le_refl _, by decide⟩
theorem fd_drew1 {w0 : World} {f M V : Nat} {A : Option Addr} {c cv : Nat} {l : List Int} {i : Nat} {W : World} (h : Fd w0 f M V A c cv l i W) : Fd w0 f M V A c cv l i W.drew := h.drewN 1
theorem wr_allocs {base g : Nat} {W : World} {T N : Nat} (h : Wr base g W T N) (o : Obj) : Wr base g (W.alloc o) T N := h.keep (Below.heap_alloc W o g h.lt) fun i hi => Below.heap_alloc W o i (h.row_ge i hi).2
theorem wr_drew1 {base g : Nat} {W : World} {T N : Nat} (h : Wr base g W T N) : Wr base g W.drew T N := h.keep rfl (fun _ _ => rfl)
set_option maxRecDepth 8000 in
set_option maxHeartbeats 4000000 in
theorem fixed_calls (w : World) (A : Option Addr) (c : Nat) (l : List Int) (hl : ReadsInt w .u8 A l.length l) (hby : ∀ x ∈ l, 0 ≤ x ∧ x < 256) (hm : l.length ≤ 1048576) :
    Calls Tryd.prog 37 #[.slice A l.length c] w fun e w' => ∃ v, e = .returned v ∧ Bs 5 w' w.heap.size v (fixedB l) ∧ Below w.heap.size w w' := by
  have HL := Lib.hid hl
  have HNEW := Lib.hid (wr_new w)
  have hmi := print_make (P := Tryd.prog) 51 3 .i64 8 Tryd.underlying51 infoInt (by decide) l.length (by omega)
  clear hl
  have hmm := make_map
  go_enter Tryd.func37, Tryd.ntmps37
  go_wp2_with fail
  refine (number_calls w.heap.size w.heap.size _ 0 0 3 3 HNEW.out (by decide) (by decide) (by decide)).mono ?_
  rintro e w1 ⟨rfl, hs1, hw1⟩
  have HB1 := Lib.hid (hs1.below (below_alloc (Below.refl w.heap.size w) _) (by simp) (Nat.le_refl _) (fun j hj => (HNEW.out.row_ge j hj).1))
  have HW1 := Lib.hid hw1
  clear hs1 hw1
  go_wp2_with fail
  go_region
  · have HF2 : Hid (Fd w (w1.heap.size + 1 + 1) w1.heap.size (w1.heap.size + 1) A c l.length l 0 _) := Lib.hid (fd_drew1 (made_finder1 (c := c) HB1.out HL.out hm))
    have HW2 := Lib.hid (wr_drew1 (wr_allocs (wr_allocs (wr_allocs HW1.out (.map #[] 0)) (.cells (madeCells #[.int .i64 0] l.length) 3)) (.cells #[.slice A l.length c, .map (some (w1.heap.size)), .slice (some ⟨w1.heap.size + 1, 0, none⟩) l.length l.length] 83)))
    generalize (World.drew _) = W2 at HF2 HW2 ⊢
    generalize w1.heap.size + 1 + 1 = f at HF2 ⊢
    obtain ⟨M, hM⟩ : ∃ M, M = w1.heap.size := ⟨_, rfl⟩
    obtain ⟨V, hV⟩ : ∃ V, V = w1.heap.size + 1 := ⟨_, rfl⟩
    rw [← hV, ← hM] at HF2
    clear hM hV
    generalize (if (65535 : Int) < (l.length : Int) then (65535 : Int) else (l.length : Int)) = q15
    clear hmi hmm HW1 HB1 HNEW
    go_wp2_with fail
    go_loopw [5] (fun vi wr => ∃ (i T N : Nat), vi = .int .i64 i ∧ i ≤ l.length ∧ N ≤ 3 + 40 * i ∧ Hid (Wr w.heap.size w.heap.size wr T N) ∧ Hid (Fd w f M V A c l.length l i wr) ∧ Hid (fixT l i T N = fixT l 0 3 3)) (fun vi _ => l.length - (intOf vi).toNat)
    case atStart => exact ⟨0, 3, 3, rfl, by omega, by omega, HW2, HF2, Lib.hid rfl⟩
    case round =>
      obtain ⟨i, T, N, rfl, hi, hN, hw, hF, hT⟩ := hrel
      by_cases hlt : i < l.length
      · have i1 : (i : Int) < (l.length : Int) := by omega
        have i0 : (0 : Int) ≤ (i : Int) := by omega
        obtain ⟨n, hn⟩ : ∃ n, n = (mat l i).1 := ⟨_, rfl⟩
        obtain ⟨d, hd⟩ : ∃ d, d = (mat l i).2 := ⟨_, rfl⟩
        have hmb := mat_bounds l i
        rw [← hn, ← hd] at hmb
        have HN := Lib.hid hn
        have HD := Lib.hid hd
        go_wp2_with fail
        refine (match_calls w f M V A c l.length l i wr hF.out hby (by omega) hi).mono ?_
        rintro e w2 ⟨he, m, rfl⟩
        rw [← hn, ← hd] at he
        clear hn hd
        have HF3 := Lib.hid (hF.out.drewN m)
        have HW3 := Lib.hid (hw.out.drewN m)
        clear hF hw
        generalize wr.drewN m = w3 at *
        obtain ⟨ad, hA, hcell⟩ := HF3.out.reads.2.2 (by omega)
        subst hA
        rcases Nat.eq_zero_or_pos n with hz | hz
        · rw [hz, show ((0 : Nat) : Int) = 0 from rfl] at he
          subst he
          have k1 := hcell i hlt
          obtain ⟨s, hs, hs2⟩ : ∃ s : Nat, l.getD i 0 = (s : Int) ∧ s < 256 := by
            have := bytes_getD hby i
            exact ⟨(l.getD i 0).toNat, by omega, by omega⟩
          have HFX := Lib.hid ((fixT_lit hlt (by rw [← HN.out, hz])).symm.trans hT.out)
          rw [hs, Int.toNat_natCast] at HFX
          rw [hs] at k1
          clear hs hcell
          go_wp2_with fail
          refine (symbol_calls w.heap.size w.heap.size w3 T N s HW3.out (by omega) (by omega)).mono ?_
          rintro e w5 ⟨rfl, hs5, hw5⟩
          have HF5 := Lib.hid (fd_put HW3.out HF3.out hs5)
          have HW5 := Lib.hid hw5
          have hN5 : N + symN s ≤ 3 + 40 * (i + 1) := by have := symN_le s; omega
          clear hs5 hw5 k1 HF3 HW3
          generalize T + symV s * 2 ^ N = T5 at HFX HW5
          generalize N + symN s = N5 at HFX HW5 hN5
          have HHX := HFX
          go_wp2_with fail
          go_loopw [48, 5] (fun vk vi wr => ∃ k : Nat, vk = .int .i64 k ∧ vi = .int .i64 ((i + k : Nat) : Int) ∧ k ≤ 1 ∧ Hid (Wr w.heap.size w.heap.size wr T5 N5) ∧ Hid (Fd w f M V (some ad) c l.length l (i + k) wr)) (fun vk _ _ => 1 - (intOf vk).toNat)
          case atStart => exact ⟨0, rfl, rfl, by omega, HW5, HF5⟩
          case round =>
            obtain ⟨k, rfl, rfl, hk, hwk, hFk⟩ := hrel
            by_cases hkn : k < 1
            · have hkI : (k : Int) < ((1 : Nat) : Int) := by omega
              go_wp2_with fail
              refine (note_calls w f M V (some ad) c l.length l (i + k) wr hFk.out hby (by omega) (by omega)).mono ?_
              rintro e w6 ⟨rfl, hm6, hF6⟩
              have HW6 := Lib.hid (wr_note hwk.out hFk.out hm6)
              have HF6 := Lib.hid hF6
              clear hm6 hF6
              go_wp2_with fail
              go_roundw
              case rel => exact ⟨k + 1, by go_num, by go_num, by omega, HW6, HF6⟩
              case measure => simp [intOf]; omega
            · obtain rfl : k = 1 := by omega
              go_wp2_with fail
              go_roundw
              case rel => exact ⟨_, T5, N5, rfl, by omega, by omega, hwk, hFk, HFX⟩
              case measure => simp [intOf]; omega
        · subst he
          have hnz : ((n : Int) == 0) = false := by simp; omega
          have HFX := Lib.hid ((fixT_mat hlt (by rw [← HN.out]; omega)).symm.trans hT.out)
          rw [← HN.out, ← HD.out] at HFX
          clear hcell
          have hlN := lenE_le n (by omega) (by omega)
          have hdN := disE_le d (by omega) (by omega)
          go_wp2_with fail
          refine (length_calls w.heap.size w.heap.size w3 T N n HW3.out (by omega) (by omega) (by omega)).mono ?_
          rintro e w4 ⟨rfl, hs4, hw4⟩
          have HF4 := Lib.hid (fd_put HW3.out HF3.out hs4)
          have HW4 := Lib.hid hw4
          clear hs4 hw4 HF3 HW3
          go_wp2_with fail
          refine (distance_calls w.heap.size w.heap.size w4 _ _ d HW4.out (by omega) (by omega) (by omega)).mono ?_
          rintro e w5 ⟨rfl, hs5, hw5⟩
          have HF5 := Lib.hid (fd_put HW4.out HF4.out hs5)
          have HW5 := Lib.hid hw5
          have hN5 : N + lenN n + disN d ≤ 3 + 40 * (i + n) := by omega
          clear hs5 hw5 HF4 HW4
          generalize T + lenV n * 2 ^ N + disV d * 2 ^ (N + lenN n) = T5 at HFX HW5
          generalize N + lenN n + disN d = N5 at HFX HW5 hN5
          go_wp2_with fail
          go_loopw [48, 5] (fun vk vi wr => ∃ k : Nat, vk = .int .i64 k ∧ vi = .int .i64 ((i + k : Nat) : Int) ∧ k ≤ n ∧ Hid (Wr w.heap.size w.heap.size wr T5 N5) ∧ Hid (Fd w f M V (some ad) c l.length l (i + k) wr)) (fun vk _ _ => n - (intOf vk).toNat)
          case atStart => exact ⟨0, rfl, rfl, by omega, HW5, HF5⟩
          case round =>
            obtain ⟨k, rfl, rfl, hk, hwk, hFk⟩ := hrel
            by_cases hkn : k < n
            · have hkI : (k : Int) < ((n : Nat) : Int) := by omega
              go_wp2_with fail
              refine (note_calls w f M V (some ad) c l.length l (i + k) wr hFk.out hby (by omega) (by omega)).mono ?_
              rintro e w6 ⟨rfl, hm6, hF6⟩
              have HW6 := Lib.hid (wr_note hwk.out hFk.out hm6)
              have HF6 := Lib.hid hF6
              clear hm6 hF6
              go_wp2_with fail
              go_roundw
              case rel => exact ⟨k + 1, by go_num, by go_num, by omega, HW6, HF6⟩
              case measure => simp [intOf]; omega
            · obtain rfl : k = n := by omega
              go_wp2_with fail
              go_roundw
              case rel => exact ⟨_, T5, N5, rfl, by omega, by omega, hwk, hFk, HFX⟩
              case measure => simp [intOf]; omega
      · obtain rfl : i = l.length := by omega
        have HE := Lib.hid (hT.out.symm.trans (fixT_end (Nat.le_refl _)))
        go_wp2_with fail
        refine (symbol_calls w.heap.size w.heap.size wr T N 256 hw.out (by omega) (by omega)).mono ?_
        rintro e w2 ⟨rfl, hs2, hw2⟩
        have HB2 := Lib.hid (hs2.below hF.out.below hF.out.below.size (Nat.le_refl _) (fun j hj => (hw.out.row_ge j hj).1))
        have HW2 := Lib.hid hw2
        have HEQ : Hid (fixedB l = leB ((N + symN 256 + 7) / 8) (T + symV 256 * 2 ^ N)) := Lib.hid (by unfold fixedB; rw [HE.out])
        have hsy := symN_le 256
        clear hs2 hw2 hF hw HE hT
        generalize T + symV 256 * 2 ^ N = T3 at HW2 HEQ
        have hN3 : N + symN 256 ≤ 100000000 := by omega
        generalize N + symN 256 = N3 at HW2 HEQ hN3
        obtain ⟨cc, hcc⟩ : ∃ cc, cc = N3 % 8 := ⟨_, rfl⟩
        obtain ⟨q, hq⟩ : ∃ q, q = (8 - cc) % 8 := ⟨_, rfl⟩
        obtain ⟨v, hb, ho, hbg, hT3⟩ := HW2.out
        have c2 : w2.cell? ⟨w.heap.size, 2, none⟩ = some (.int .i64 ((cc : Nat) : Int)) := by rw [hcc]; exact blk_cell hb 2
        have hc8 : (cc : Int) < 8 := by omega
        have hc0 : (0 : Int) ≤ (cc : Int) := by omega
        have htm : ((8 : Int) - (cc : Int)).tmod 8 = (q : Int) := by rw [Int.tmod_eq_emod_of_nonneg (by omega)]; omega
        have HQ := Lib.hid (show (N3 + q) / 8 = (N3 + 7) / 8 by omega)
        have hq7 : q ≤ 7 := by omega
        clear hb ho hbg hT3 hcc hq
        go_wp2_with fail
        refine (number_calls w.heap.size w.heap.size w2 T3 N3 0 q HW2.out (Nat.pow_pos (by decide)) (by omega) (by omega)).mono ?_
        rintro e w3 ⟨rfl, hs3, hw3⟩
        have HB3 := Lib.hid (hs3.below HB2.out HB2.out.size (Nat.le_refl _) (fun j hj => (HW2.out.row_ge j hj).1))
        obtain ⟨v3, hb3, ho3, _, _⟩ := hw3
        have c0 : w3.cell? ⟨w.heap.size, 0, none⟩ = some v3 := blk_cell hb3 0
        have HO3 := Lib.hid ho3
        clear hb3 ho3 hs3 c2
        go_wp2_with fail
        go_ret
        refine ⟨v3, rfl, ?_, HB3.out⟩
        rw [HEQ.out, ← HQ.out]
        simpa using HO3.out
  · have HF2 : Hid (Fd w (w1.heap.size + 1 + 1) (w1.heap.size + 1) w1.heap.size A c l.length l 0 _) := Lib.hid (fd_drew1 (made_finder2 (c := c) HB1.out HL.out hm))
    have HW2 := Lib.hid (wr_drew1 (wr_allocs (wr_allocs (wr_allocs HW1.out (.cells (madeCells #[.int .i64 0] l.length) 3)) (.map #[] 0)) (.cells #[.slice A l.length c, .map (some (w1.heap.size + 1)), .slice (some ⟨w1.heap.size, 0, none⟩) l.length l.length] 83)))
    generalize (World.drew _) = W2 at HF2 HW2 ⊢
    generalize w1.heap.size + 1 + 1 = f at HF2 ⊢
    obtain ⟨M, hM⟩ : ∃ M, M = w1.heap.size + 1 := ⟨_, rfl⟩
    obtain ⟨V, hV⟩ : ∃ V, V = w1.heap.size := ⟨_, rfl⟩
    rw [← hM, ← hV] at HF2
    clear hM hV
    generalize (if (65535 : Int) < (l.length : Int) then (65535 : Int) else (l.length : Int)) = q15
    clear hmi hmm HW1 HB1 HNEW
    go_wp2_with fail
    go_loopw [5] (fun vi wr => ∃ (i T N : Nat), vi = .int .i64 i ∧ i ≤ l.length ∧ N ≤ 3 + 40 * i ∧ Hid (Wr w.heap.size w.heap.size wr T N) ∧ Hid (Fd w f M V A c l.length l i wr) ∧ Hid (fixT l i T N = fixT l 0 3 3)) (fun vi _ => l.length - (intOf vi).toNat)
    case atStart => exact ⟨0, 3, 3, rfl, by omega, by omega, HW2, HF2, Lib.hid rfl⟩
    case round =>
      obtain ⟨i, T, N, rfl, hi, hN, hw, hF, hT⟩ := hrel
      by_cases hlt : i < l.length
      · have i1 : (i : Int) < (l.length : Int) := by omega
        have i0 : (0 : Int) ≤ (i : Int) := by omega
        obtain ⟨n, hn⟩ : ∃ n, n = (mat l i).1 := ⟨_, rfl⟩
        obtain ⟨d, hd⟩ : ∃ d, d = (mat l i).2 := ⟨_, rfl⟩
        have hmb := mat_bounds l i
        rw [← hn, ← hd] at hmb
        have HN := Lib.hid hn
        have HD := Lib.hid hd
        go_wp2_with fail
        refine (match_calls w f M V A c l.length l i wr hF.out hby (by omega) hi).mono ?_
        rintro e w2 ⟨he, m, rfl⟩
        rw [← hn, ← hd] at he
        clear hn hd
        have HF3 := Lib.hid (hF.out.drewN m)
        have HW3 := Lib.hid (hw.out.drewN m)
        clear hF hw
        generalize wr.drewN m = w3 at *
        obtain ⟨ad, hA, hcell⟩ := HF3.out.reads.2.2 (by omega)
        subst hA
        rcases Nat.eq_zero_or_pos n with hz | hz
        · rw [hz, show ((0 : Nat) : Int) = 0 from rfl] at he
          subst he
          have k1 := hcell i hlt
          obtain ⟨s, hs, hs2⟩ : ∃ s : Nat, l.getD i 0 = (s : Int) ∧ s < 256 := by
            have := bytes_getD hby i
            exact ⟨(l.getD i 0).toNat, by omega, by omega⟩
          have HFX := Lib.hid ((fixT_lit hlt (by rw [← HN.out, hz])).symm.trans hT.out)
          rw [hs, Int.toNat_natCast] at HFX
          rw [hs] at k1
          clear hs hcell
          go_wp2_with fail
          refine (symbol_calls w.heap.size w.heap.size w3 T N s HW3.out (by omega) (by omega)).mono ?_
          rintro e w5 ⟨rfl, hs5, hw5⟩
          have HF5 := Lib.hid (fd_put HW3.out HF3.out hs5)
          have HW5 := Lib.hid hw5
          have hN5 : N + symN s ≤ 3 + 40 * (i + 1) := by have := symN_le s; omega
          clear hs5 hw5 k1 HF3 HW3
          generalize T + symV s * 2 ^ N = T5 at HFX HW5
          generalize N + symN s = N5 at HFX HW5 hN5
          have HHX := HFX
          go_wp2_with fail
          go_loopw [48, 5] (fun vk vi wr => ∃ k : Nat, vk = .int .i64 k ∧ vi = .int .i64 ((i + k : Nat) : Int) ∧ k ≤ 1 ∧ Hid (Wr w.heap.size w.heap.size wr T5 N5) ∧ Hid (Fd w f M V (some ad) c l.length l (i + k) wr)) (fun vk _ _ => 1 - (intOf vk).toNat)
          case atStart => exact ⟨0, rfl, rfl, by omega, HW5, HF5⟩
          case round =>
            obtain ⟨k, rfl, rfl, hk, hwk, hFk⟩ := hrel
            by_cases hkn : k < 1
            · have hkI : (k : Int) < ((1 : Nat) : Int) := by omega
              go_wp2_with fail
              refine (note_calls w f M V (some ad) c l.length l (i + k) wr hFk.out hby (by omega) (by omega)).mono ?_
              rintro e w6 ⟨rfl, hm6, hF6⟩
              have HW6 := Lib.hid (wr_note hwk.out hFk.out hm6)
              have HF6 := Lib.hid hF6
              clear hm6 hF6
              go_wp2_with fail
              go_roundw
              case rel => exact ⟨k + 1, by go_num, by go_num, by omega, HW6, HF6⟩
              case measure => simp [intOf]; omega
            · obtain rfl : k = 1 := by omega
              go_wp2_with fail
              go_roundw
              case rel => exact ⟨_, T5, N5, rfl, by omega, by omega, hwk, hFk, HFX⟩
              case measure => simp [intOf]; omega
        · subst he
          have hnz : ((n : Int) == 0) = false := by simp; omega
          have HFX := Lib.hid ((fixT_mat hlt (by rw [← HN.out]; omega)).symm.trans hT.out)
          rw [← HN.out, ← HD.out] at HFX
          clear hcell
          have hlN := lenE_le n (by omega) (by omega)
          have hdN := disE_le d (by omega) (by omega)
          go_wp2_with fail
          refine (length_calls w.heap.size w.heap.size w3 T N n HW3.out (by omega) (by omega) (by omega)).mono ?_
          rintro e w4 ⟨rfl, hs4, hw4⟩
          have HF4 := Lib.hid (fd_put HW3.out HF3.out hs4)
          have HW4 := Lib.hid hw4
          clear hs4 hw4 HF3 HW3
          go_wp2_with fail
          refine (distance_calls w.heap.size w.heap.size w4 _ _ d HW4.out (by omega) (by omega) (by omega)).mono ?_
          rintro e w5 ⟨rfl, hs5, hw5⟩
          have HF5 := Lib.hid (fd_put HW4.out HF4.out hs5)
          have HW5 := Lib.hid hw5
          have hN5 : N + lenN n + disN d ≤ 3 + 40 * (i + n) := by omega
          clear hs5 hw5 HF4 HW4
          generalize T + lenV n * 2 ^ N + disV d * 2 ^ (N + lenN n) = T5 at HFX HW5
          generalize N + lenN n + disN d = N5 at HFX HW5 hN5
          go_wp2_with fail
          go_loopw [48, 5] (fun vk vi wr => ∃ k : Nat, vk = .int .i64 k ∧ vi = .int .i64 ((i + k : Nat) : Int) ∧ k ≤ n ∧ Hid (Wr w.heap.size w.heap.size wr T5 N5) ∧ Hid (Fd w f M V (some ad) c l.length l (i + k) wr)) (fun vk _ _ => n - (intOf vk).toNat)
          case atStart => exact ⟨0, rfl, rfl, by omega, HW5, HF5⟩
          case round =>
            obtain ⟨k, rfl, rfl, hk, hwk, hFk⟩ := hrel
            by_cases hkn : k < n
            · have hkI : (k : Int) < ((n : Nat) : Int) := by omega
              go_wp2_with fail
              refine (note_calls w f M V (some ad) c l.length l (i + k) wr hFk.out hby (by omega) (by omega)).mono ?_
              rintro e w6 ⟨rfl, hm6, hF6⟩
              have HW6 := Lib.hid (wr_note hwk.out hFk.out hm6)
              have HF6 := Lib.hid hF6
              clear hm6 hF6
              go_wp2_with fail
              go_roundw
              case rel => exact ⟨k + 1, by go_num, by go_num, by omega, HW6, HF6⟩
              case measure => simp [intOf]; omega
            · obtain rfl : k = n := by omega
              go_wp2_with fail
              go_roundw
              case rel => exact ⟨_, T5, N5, rfl, by omega, by omega, hwk, hFk, HFX⟩
              case measure => simp [intOf]; omega
      · obtain rfl : i = l.length := by omega
        have HE := Lib.hid (hT.out.symm.trans (fixT_end (Nat.le_refl _)))
        go_wp2_with fail
        refine (symbol_calls w.heap.size w.heap.size wr T N 256 hw.out (by omega) (by omega)).mono ?_
        rintro e w2 ⟨rfl, hs2, hw2⟩
        have HB2 := Lib.hid (hs2.below hF.out.below hF.out.below.size (Nat.le_refl _) (fun j hj => (hw.out.row_ge j hj).1))
        have HW2 := Lib.hid hw2
        have HEQ : Hid (fixedB l = leB ((N + symN 256 + 7) / 8) (T + symV 256 * 2 ^ N)) := Lib.hid (by unfold fixedB; rw [HE.out])
        have hsy := symN_le 256
        clear hs2 hw2 hF hw HE hT
        generalize T + symV 256 * 2 ^ N = T3 at HW2 HEQ
        have hN3 : N + symN 256 ≤ 100000000 := by omega
        generalize N + symN 256 = N3 at HW2 HEQ hN3
        obtain ⟨cc, hcc⟩ : ∃ cc, cc = N3 % 8 := ⟨_, rfl⟩
        obtain ⟨q, hq⟩ : ∃ q, q = (8 - cc) % 8 := ⟨_, rfl⟩
        obtain ⟨v, hb, ho, hbg, hT3⟩ := HW2.out
        have c2 : w2.cell? ⟨w.heap.size, 2, none⟩ = some (.int .i64 ((cc : Nat) : Int)) := by rw [hcc]; exact blk_cell hb 2
        have hc8 : (cc : Int) < 8 := by omega
        have hc0 : (0 : Int) ≤ (cc : Int) := by omega
        have htm : ((8 : Int) - (cc : Int)).tmod 8 = (q : Int) := by rw [Int.tmod_eq_emod_of_nonneg (by omega)]; omega
        have HQ := Lib.hid (show (N3 + q) / 8 = (N3 + 7) / 8 by omega)
        have hq7 : q ≤ 7 := by omega
        clear hb ho hbg hT3 hcc hq
        go_wp2_with fail
        refine (number_calls w.heap.size w.heap.size w2 T3 N3 0 q HW2.out (Nat.pow_pos (by decide)) (by omega) (by omega)).mono ?_
        rintro e w3 ⟨rfl, hs3, hw3⟩
        have HB3 := Lib.hid (hs3.below HB2.out HB2.out.size (Nat.le_refl _) (fun j hj => (HW2.out.row_ge j hj).1))
        obtain ⟨v3, hb3, ho3, _, _⟩ := hw3
        have c0 : w3.cell? ⟨w.heap.size, 0, none⟩ = some v3 := blk_cell hb3 0
        have HO3 := Lib.hid ho3
        clear hb3 ho3 hs3 c2
        go_wp2_with fail
        go_ret
        refine ⟨v3, rfl, ?_, HB3.out⟩
        rw [HEQ.out, ← HQ.out]
        simpa using HO3.out
def deflate_fixed.f (l0 : List Int) : Option (List Int) := if l0.length ≤ 1048576 ∧ (∀ x ∈ l0, 0 ≤ x ∧ x < 256) then some (fixedB l0) else none
theorem deflate_fixed.calls (A0 : Option Addr) (c0 : Nat) (l0 : List Int) (r : List Int) (w : World) (hr0 : Kd.C (Kd.int .u8) w A0 l0.length l0) (hc0 : l0.length ≤ c0) (h : deflate_fixed.f l0 = some r) :
    Calls Tryd.prog 37 #[.slice A0 l0.length c0] w fun e w' => ∃ v0_ : Value, e = .returned (v0_) ∧ Kd.R (Kd.int .u8) 5 w' w.heap.size (fun _ => True) v0_ r ∧ Below w.heap.size w w' := by
  unfold deflate_fixed.f at h
  split at h
  · rename_i hb
    obtain rfl := Option.some.inj h
    exact (fixed_calls w A0 c0 l0 (readsC hr0) hb.2 hb.1).mono fun e w' ⟨v, he, hv, hbl⟩ => ⟨v, he, Bs.toR hv, hbl⟩
  · cases h


/-! ### deflate_Deflate: function 20 -/
/-- What Deflate answers. -/
def docD (l : List Int) (a : Int) : List Int × Int := if a < 0 ∨ 2 < a then ([], 1) else if a = 0 then (storedB l, 0) else if a = 2 ∧ (storedB l).length ≤ (fixedB l).length then (storedB l, 0) else (fixedB l, 0)
theorem stored_len (l : List Int) : (storedB l).length = l.length + 5 := by simp [storedB]
theorem Bs.mono_ {e : Nat} {w : World} {b b' : Nat} {v : Value} {l : List Int} (h : Bs e w b v l) (hb : b' ≤ b) : Bs e w b' v l := own_weaken h hb
set_option maxRecDepth 8000 in
set_option maxHeartbeats 2000000 in
theorem fixed_nil : fixedB [] = [3, 0] := by
  unfold fixedB
  rw [fixT_end (by decide)]
  decide +kernel
theorem deflate_nil (w : World) (A : Option Addr) (c : Nat) (hl : ReadsInt w .u8 A 0 []) :
    Calls Tryd.prog 20 #[.slice A 0 c, .int .i64 2] w fun e w' => ∃ v, e = .returned (.tuple #[v, .int .i64 (docD [] 2).2]) ∧ Bs 5 w' w.heap.size v (docD [] 2).1 ∧ Below w.heap.size w w' := by
  have e : docD [] 2 = ([3, 0], 0) := by
    unfold docD
    rw [stored_len, fixed_nil]
    decide
  rw [e]
  have hF := fixed_calls w A c [] hl (by simp) (by decide)
  rw [fixed_nil, List.length_nil] at hF
  have HF := Lib.hid hF
  clear hF hl e
  go_enter Tryd.func20, Tryd.ntmps20
  go_wp2_with fail
  refine HF.out.mono ?_
  rintro e w1 ⟨v, rfl, hv, hb⟩
  have HB := Lib.hid hb
  obtain ⟨Av, cv, hve⟩ := own_slice hv
  subst hve
  have HV := Lib.hid hv
  clear hv hb
  rw [show ([3, 0] : List Int).length = 2 from rfl]
  go_wp2_with fail
  go_ret2
  exact ⟨_, rfl, HV.out, HB.out⟩
set_option maxRecDepth 8000 in
set_option maxHeartbeats 2000000 in
theorem deflate_calls (w : World) (A : Option Addr) (c : Nat) (l : List Int) (a : Int) (hl : ReadsInt w .u8 A l.length l) (hc : l.length ≤ c) (hby : ∀ x ∈ l, 0 ≤ x ∧ x < 256) (hm : l.length ≤ 60000) :
    Calls Tryd.prog 20 #[.slice A l.length c, .int .i64 a] w fun e w' => ∃ v, e = .returned (.tuple #[v, .int .i64 (docD l a).2]) ∧ Bs 5 w' w.heap.size v (docD l a).1 ∧ Below w.heap.size w w' := by
  have HL := Lib.hid hl
  have HBY := Lib.hid hby
  have hlen : ¬ (l.length : Int) > 1048576 := by omega
  clear hl hby
  by_cases h1 : a < 0 ∨ 2 < a
  · have e : docD l a = ([], 1) := by unfold docD; rw [if_pos h1]
    rw [e]
    rcases h1 with h1 | h1
    · go_enter Tryd.func20, Tryd.ntmps20
      go_wp2_with fail
      go_ret2
      exact ⟨.slice none 0 0, rfl, World.ownsRow_nil _ _ _ _, Below.refl _ _⟩
    · have h2 : ¬ a < 0 := by omega
      have h3 : a > 2 := by omega
      go_enter Tryd.func20, Tryd.ntmps20
      go_wp2_with fail
      go_ret2
      exact ⟨.slice none 0 0, rfl, World.ownsRow_nil _ _ _ _, Below.refl _ _⟩
  · have n1 : ¬ a < 0 := by omega
    have n2 : ¬ a > 2 := by omega
    by_cases h0 : a = 0
    · have e : docD l a = (storedB l, 0) := by unfold docD; rw [if_neg h1, if_pos h0]
      rw [e]
      have b0 : (a == 0) = true := by simp [h0]
      clear e h1 h0
      go_enter Tryd.func20, Tryd.ntmps20
      go_wp2_with fail
      refine (stored_calls w A c l HL.out hc (by omega)).mono ?_
      rintro e w1 ⟨v, rfl, hv, hb⟩
      have HV := Lib.hid hv
      have HB := Lib.hid hb
      clear hv hb
      go_wp2_with fail
      go_ret2
      exact ⟨v, rfl, HV.out, HB.out⟩
    · have b0 : (a == 0) = false := by simp [h0]
      by_cases h2 : a = 2
      · rcases Nat.eq_zero_or_pos l.length with hz0 | hz0
        · obtain rfl := List.eq_nil_of_length_eq_zero hz0
          rw [h2]
          exact deflate_nil w A c HL.out
        have b2 : (a == 2) = true := by simp [h2]
        obtain ⟨n, hn⟩ : ∃ n, n = (fixedB l).length := ⟨_, rfl⟩
        have e : docD l a = if l.length + 5 ≤ n then (storedB l, 0) else (fixedB l, 0) := by
          unfold docD
          rw [if_neg h1, if_neg h0, stored_len, ← hn]
          by_cases h5 : l.length + 5 ≤ n
          · rw [if_pos ⟨h2, h5⟩, if_pos h5]
          · rw [if_neg (fun h => h5 h.2), if_neg h5]
        by_cases h5 : l.length + 5 ≤ n
        · rw [e, if_pos h5]
          have HN := Lib.hid hn
          have i5 : (n : Int) ≥ (l.length : Int) + 5 := by omega
          clear e h1 h0 h2 hn
          go_enter Tryd.func20, Tryd.ntmps20
          go_wp2_with fail
          refine (fixed_calls w A c l HL.out HBY.out (by omega)).mono ?_
          rintro e w1 ⟨v, rfl, hv, hb⟩
          have HB := Lib.hid hb
          obtain ⟨Av, cv, hve⟩ := own_slice hv
          subst hve
          rw [← HN.out] at hv ⊢
          have HV := Lib.hid hv
          clear hv hb
          rcases Nat.eq_zero_or_pos l.length with hz | hz
          · exact absurd hz (by omega)
          · have hmy : ¬ ((l.length : Int) - 1 < 0) := by omega
            have hmz : ((l.length : Int) - 1).tdiv 65535 = 0 := by rw [Int.tdiv_eq_ediv_of_nonneg (by omega)]; omega
            go_wp2_with fail
            refine (stored_calls w1 A c l (HL.out.below HB.out) hc (by omega)).mono ?_
            rintro e w2 ⟨v2, rfl, hv2, hb2⟩
            have HV2 := Lib.hid (Bs.mono_ hv2 HB.out.size)
            have HB2 := Lib.hid (below_then HB.out HB.out.size hb2)
            clear hv2 hb2
            go_wp2_with fail
            go_ret2
            exact ⟨v2, rfl, HV2.out, HB2.out⟩
        · rw [e, if_neg h5]
          have HN := Lib.hid hn
          have i5 : ¬ (n : Int) ≥ (l.length : Int) + 5 := by omega
          clear e h1 h0 h2 hn
          go_enter Tryd.func20, Tryd.ntmps20
          go_wp2_with fail
          refine (fixed_calls w A c l HL.out HBY.out (by omega)).mono ?_
          rintro e w1 ⟨v, rfl, hv, hb⟩
          have HB := Lib.hid hb
          obtain ⟨Av, cv, hve⟩ := own_slice hv
          subst hve
          rw [← HN.out] at hv ⊢
          have HV := Lib.hid hv
          clear hv hb
          rcases Nat.eq_zero_or_pos l.length with hz | hz
          · exact absurd hz (by omega)
          · have hmy : ¬ ((l.length : Int) - 1 < 0) := by omega
            have hmz : ((l.length : Int) - 1).tdiv 65535 = 0 := by rw [Int.tdiv_eq_ediv_of_nonneg (by omega)]; omega
            go_wp2_with fail
            go_ret2
            exact ⟨_, rfl, HV.out, HB.out⟩
      · have b2 : (a == 2) = false := by simp [h2]
        have e : docD l a = (fixedB l, 0) := by unfold docD; rw [if_neg h1, if_neg h0, if_neg (fun h => h2 h.1)]
        rw [e]
        clear e h1 h0 h2
        go_enter Tryd.func20, Tryd.ntmps20
        go_wp2_with fail
        refine (fixed_calls w A c l HL.out HBY.out (by omega)).mono ?_
        rintro e w1 ⟨v, rfl, hv, hb⟩
        have HV := Lib.hid hv
        have HB := Lib.hid hb
        clear hv hb
        go_wp2_with fail
        go_ret2
        exact ⟨v, rfl, HV.out, HB.out⟩
def deflate_Deflate.f (l0 : List Int) (a1 : Int) : Option (List Int × Int) := if l0.length ≤ 60000 ∧ (∀ x ∈ l0, 0 ≤ x ∧ x < 256) then some (docD l0 a1) else none
theorem deflate_Deflate.calls (A0 : Option Addr) (c0 : Nat) (l0 : List Int) (a1 : Int) (r1 : List Int) (r2 : Int) (w : World) (hr0 : Kd.C (Kd.int .u8) w A0 l0.length l0) (hc0 : l0.length ≤ c0) (h : deflate_Deflate.f l0 a1 = some (r1, r2)) :
    Calls Tryd.prog 20 #[.slice A0 l0.length c0, .int .i64 a1] w fun e w' => ∃ v0_ : Value, e = .returned (.tuple #[v0_, .int .i64 r2]) ∧ Kd.R (Kd.int .u8) 5 w' w.heap.size (fun _ => True) v0_ r1 ∧ Below w.heap.size w w' := by
  unfold deflate_Deflate.f at h
  split at h
  · rename_i hb
    have e := Option.some.inj h
    have h1 : r1 = (docD l0 a1).1 := by rw [e]
    have h2 : r2 = (docD l0 a1).2 := by rw [e]
    rw [h1, h2]
    exact (deflate_calls w A0 c0 l0 a1 (readsC hr0) hc0 hb.2 hb.1).mono fun e w' ⟨v, he, hv, hbl⟩ => ⟨v, he, Bs.toR hv, hbl⟩
  · cases h


/-! ### codicillaw04_awake: function 19 -/
def codicillaw04_awake.f : Option (Bool) := some true
theorem aw4_a : fixedB [97] = [75, 4, 0] := by
  unfold fixedB
  rw [fixT_lit (l := [97]) (i := 0) (by decide) (by decide +kernel), fixT_end (by decide)]
  decide +kernel
theorem aw4_c : fixedB [97, 97, 97, 97, 97, 97, 97, 97] = [75, 132, 2, 0] := by
  unfold fixedB
  have hm : mat [97, 97, 97, 97, 97, 97, 97, 97] 1 = (7, 1) := by decide +kernel
  rw [fixT_lit (i := 0) (by decide) (by decide +kernel), fixT_mat (i := 0 + 1) (by decide) (by rw [show 0 + 1 = 1 from rfl, hm]; decide), show 0 + 1 = 1 from rfl, hm, fixT_end (by decide)]
  decide +kernel
theorem aw4_1 : deflate_Deflate.f [97] 1 = some ([75, 4, 0], 0) := by
  simp [deflate_Deflate.f, docD, aw4_a]
theorem aw4_2 : deflate_Deflate.f [97, 98, 99] 0 = some ([1, 3, 0, 252, 255, 97, 98, 99], 0) := by
  have h : storedB [97, 98, 99] = [1, 3, 0, 252, 255, 97, 98, 99] := by decide +kernel
  simp [deflate_Deflate.f, docD, h]
theorem aw4_3 : deflate_Deflate.f [97, 97, 97, 97, 97, 97, 97, 97] 1 = some ([75, 132, 2, 0], 0) := by
  simp [deflate_Deflate.f, docD, aw4_c]
theorem aw4_k1 (W : World) : ReadsInt (W.alloc (.cells #[.int .u8 97] 5 (1, 2))) .u8 (some ⟨W.heap.size, 0, none⟩) 1 [97] := const_reads W 5 [97] _ _ rfl (by decide)
theorem aw4_k2 (W : World) : ReadsInt (W.alloc (.cells #[.int .u8 97, .int .u8 98, .int .u8 99] 5 (3, 4))) .u8 (some ⟨W.heap.size, 0, none⟩) 3 [97, 98, 99] := const_reads W 5 [97, 98, 99] _ _ rfl (by decide)
theorem aw4_k3 (W : World) : ReadsInt (W.alloc (.cells #[.int .u8 97, .int .u8 97, .int .u8 97, .int .u8 97, .int .u8 97, .int .u8 97, .int .u8 97, .int .u8 97] 5 (8, 9))) .u8 (some ⟨W.heap.size, 0, none⟩) 8 [97, 97, 97, 97, 97, 97, 97, 97] := const_reads W 5 [97, 97, 97, 97, 97, 97, 97, 97] _ _ rfl (by decide)
theorem aw4_open {w : World} {base : Nat} {v : Value} {r : List Int} (h : Kd.R (Kd.int .u8) 5 w base (fun _ => True) v r) : ∃ A c, v = .slice A r.length c ∧ r.length ≤ c ∧ ReadsInt w .u8 A r.length r ∧ Bs 5 w base v r := by
  obtain ⟨A, c, e, hc, hr⟩ := own_reads_of_le (enc := Value.int .u8) (d := 0) (Bs.ofR h)
  exact ⟨A, c, e, hc, own_reads' (by rw [← e]; exact Bs.ofR h), Bs.ofR h⟩
set_option maxRecDepth 8000 in
set_option maxHeartbeats 2000000 in
theorem codicillaw04_awake.calls (r : Bool) (w : World) (h : codicillaw04_awake.f = some r) :
    Calls Tryd.prog 19 #[] w fun e w' => e = .returned (.bool r) ∧ Below w.heap.size w w' := by
  obtain rfl := Option.some.inj h
  have kc := fun (w : World) (C : Array Value) (n c : Nat) => Lib.run_convert_bytes_const (P := Tryd.prog) w 22 5 C n c Tryd.underlying22 Tryd.underlying5
  have HS1 := Lib.hid (show codicilref01_Same.f [75, 4, 0] [75, 4, 0] = some true by simp [codicilref01_Same.f])
  have HS2 := Lib.hid (show codicilref01_Same.f [1, 3, 0, 252, 255, 97, 98, 99] [1, 3, 0, 252, 255, 97, 98, 99] = some true by simp [codicilref01_Same.f])
  have HS3 := Lib.hid (show codicilref01_Same.f [75, 132, 2, 0] [75, 132, 2, 0] = some true by simp [codicilref01_Same.f])
  go_enter Tryd.func19, Tryd.ntmps19
  go_wp2_with fail
  refine (deflate_Deflate.calls _ 1 [97] 1 [75, 4, 0] 0 _ (toC (aw4_k1 w)) (by decide) aw4_1).mono ?_
  rintro e w1 ⟨v1, rfl, hr1, hd⟩
  have HB1 := Lib.hid (show Below w.heap.size w w1 from below_then (below_alloc (Below.refl _ _) _) (below_alloc (Below.refl _ _) _).size hd)
  obtain ⟨A1, c1, rfl, hc1, hR1, hO1⟩ := aw4_open hr1
  have HR1 := Lib.hid hR1
  clear hr1 hd hR1 hO1
  go_wp2_with fail
  refine (deflate_Deflate.calls _ 3 [97, 98, 99] 0 [1, 3, 0, 252, 255, 97, 98, 99] 0 _ (toC (aw4_k2 w1)) (by decide) aw4_2).mono ?_
  rintro e w2 ⟨v2, rfl, hr2, hd⟩
  have HD2 := Lib.hid (show Below w1.heap.size w1 w2 from below_then (below_alloc (Below.refl _ _) _) (below_alloc (Below.refl _ _) _).size hd)
  have HB2 := Lib.hid (show Below w.heap.size w w2 from below_then HB1.out HB1.out.size HD2.out)
  obtain ⟨A2, c2, rfl, hc2, hR2, hO2⟩ := aw4_open hr2
  have HR2 := Lib.hid hR2
  have HR12 := Lib.hid (HR1.out.below HD2.out)
  clear hr2 hd hR2 hO2 HD2
  go_wp2_with fail
  refine (deflate_Deflate.calls _ 8 [97, 97, 97, 97, 97, 97, 97, 97] 1 [75, 132, 2, 0] 0 _ (toC (aw4_k3 w2)) (by decide) aw4_3).mono ?_
  rintro e w3 ⟨v3, rfl, hr3, hd⟩
  have HD3 := Lib.hid (show Below w2.heap.size w2 w3 from below_then (below_alloc (Below.refl _ _) _) (below_alloc (Below.refl _ _) _).size hd)
  have HB3 := Lib.hid (show Below w.heap.size w w3 from below_then HB2.out HB2.out.size HD3.out)
  obtain ⟨A3, c3, rfl, hc3, hR3, hO3⟩ := aw4_open hr3
  have HR3 := Lib.hid hR3
  have HR13 := Lib.hid (HR12.out.below HD3.out)
  have HR23 := Lib.hid (HR2.out.below HD3.out)
  clear hr3 hd hR3 hO3 HD3
  go_wp2_with fail
  refine (codicilref01_Same.calls A1 c1 [75, 4, 0] (some ⟨w3.heap.size, 0, none⟩) 3 [75, 4, 0] true _ (toC (HR13.out.below (below_alloc (Below.refl _ _) _))) hc1 (toC (own_reads' (own_lit w3 _ 5 .u8 [75, 4, 0] (Nat.le_refl _) (by simp)))) (by simp) HS1.out).mono ?_
  rintro e w4 ⟨rfl, hd⟩
  obtain ⟨n4, rfl⟩ := hd.out
  have HD4 := Lib.hid (pw_below_drewN (below_alloc (Below.refl w3.heap.size w3) (.cells (nums .u8 [75, 4, 0]).toArray 5)) n4)
  have HB4 := Lib.hid (show Below w.heap.size w _ from below_then HB3.out HB3.out.size HD4.out)
  have HR24 := Lib.hid (HR23.out.below HD4.out)
  have HR34 := Lib.hid (HR3.out.below HD4.out)
  clear hd HD4
  generalize World.drewN _ _ = w4 at *
  go_wp2_with fail
  refine (codicilref01_Same.calls A2 c2 [1, 3, 0, 252, 255, 97, 98, 99] (some ⟨w4.heap.size, 0, none⟩) 8 [1, 3, 0, 252, 255, 97, 98, 99] true _ (toC (HR24.out.below (below_alloc (Below.refl _ _) _))) hc2 (toC (own_reads' (own_lit w4 _ 5 .u8 [1, 3, 0, 252, 255, 97, 98, 99] (Nat.le_refl _) (by simp)))) (by simp) HS2.out).mono ?_
  rintro e w5 ⟨rfl, hd⟩
  obtain ⟨n5, rfl⟩ := hd.out
  have HD5 := Lib.hid (pw_below_drewN (below_alloc (Below.refl w4.heap.size w4) (.cells (nums .u8 [1, 3, 0, 252, 255, 97, 98, 99]).toArray 5)) n5)
  have HB5 := Lib.hid (show Below w.heap.size w _ from below_then HB4.out HB4.out.size HD5.out)
  have HR35 := Lib.hid (HR34.out.below HD5.out)
  clear hd HD5
  generalize World.drewN _ _ = w5 at *
  go_wp2_with fail
  refine (codicilref01_Same.calls A3 c3 [75, 132, 2, 0] (some ⟨w5.heap.size, 0, none⟩) 4 [75, 132, 2, 0] true _ (toC (HR35.out.below (below_alloc (Below.refl _ _) _))) hc3 (toC (own_reads' (own_lit w5 _ 5 .u8 [75, 132, 2, 0] (Nat.le_refl _) (by simp)))) (by simp) HS3.out).mono ?_
  rintro e w6 ⟨rfl, hd⟩
  obtain ⟨n6, rfl⟩ := hd.out
  have HD6 := Lib.hid (pw_below_drewN (below_alloc (Below.refl w5.heap.size w5) (.cells (nums .u8 [75, 132, 2, 0]).toArray 5)) n6)
  have HB6 := Lib.hid (show Below w.heap.size w _ from below_then HB5.out HB5.out.size HD6.out)
  clear hd HD6
  generalize World.drewN _ _ = w6 at *
  go_wp2_with fail
  go_ret
  exact ⟨rfl, HB6.out⟩


-- NOT PRINTED: function 7 (codicillaw04_DeflateBack)

end Go.Proofs.YtkdklcamgcmifaaDoor.PB
